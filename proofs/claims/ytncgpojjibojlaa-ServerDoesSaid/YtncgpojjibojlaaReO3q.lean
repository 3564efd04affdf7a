/- replica.Begin, Commit: their contracts. -/
import Derived.Test.YtncgpojjibojlaaReO2q
namespace Go.Proofs.Ytncgpojjibojlaa
open Go Go.RowKit Go.Sort

theorem Bx.set1 {w : World} {B : Nat} {t : TypeId} {cs : List Value} (h : Bx w B t cs) (j : Nat) (u : Value) : Bx (w.setCell ⟨B, j, none⟩ u) B t (cs.set j u) := by
  have h' : w.heap[B]? = some (.cells cs.toArray t (0, 0)) := h
  show (w.setCell ⟨B, j, none⟩ u).heap[B]? = _
  simp [World.setCell, Array.getElem?_modify, h']

set_option maxHeartbeats 4000000 in
set_option maxRecDepth 100000 in
theorem begin_any (v : Value) (l : List Re) (x : Re) (room : Int) (w : World) (hl : l.length ≤ 900) (hR : Rd w 5 v l.length (l.flatMap reC)) :
    Calls Try.prog 30 #[v, .agg #[.int .i64 x.1, .int .i64 x.2.1, .int .u32 x.2.2.1, .bool x.2.2.2.1, .bool x.2.2.2.2], .int .i64 room] w (FreshT (bgnR l x room) w) := by
  have HR := Lib.hid hR
  have hrm : bgnR l x room = if namedB x.1 x.2.1 = false then (1, []) else if (findR (fairR l) x.1 false).any (fun h => decide (h.2.1 ≥ x.2.1)) then (9, []) else if (findR (fairR l) x.1 true).any (fun t => decide (t.2.1 ≥ x.2.1)) then (6, []) else if (findR (fairR l) x.1 true).isNone && decide ((fairR l).length ≥ room) then (7, []) else (0, putR (fairR l) (x.1, x.2.1, x.2.2.1, true, false)) := rfl
  have HRM := Lib.hid hrm
  have hfl := fairR_len l
  obtain ⟨x0, x1, x2, x3, x4⟩ := x
  simp only at HRM
  clear hR hrm
  go_enter Try.func30, Try.ntmps30
  go_wp2_with fail
  have hal := below_one w (.cells #[.int .i64 x0, .int .i64 x1, .int .u32 x2, .bool x3, .bool x4] 52)
  have hbx := Bx.new w 52 [.int .i64 x0, .int .i64 x1, .int .u32 x2, .bool x3, .bool x4]
  change Bx (w.alloc (.cells #[.int .i64 x0, .int .i64 x1, .int .u32 x2, .bool x3, .bool x4] 52)) _ _ _ at hbx
  generalize (w.alloc (.cells #[.int .i64 x0, .int .i64 x1, .int .u32 x2, .bool x3, .bool x4] 52)) = w0 at *
  obtain ⟨bb, hbb⟩ : ∃ b, w.heap.size = b := ⟨_, rfl⟩
  rw [hbb] at hal hbx ⊢
  have HBB := Lib.hid hbb
  have hbl := hbx.lt
  refine (fairR_any v l w0 (by omega) (HR.out.below hal (by omega))).mono ?_
  rintro e w1 ⟨v1, rfl, ho1, hb1⟩
  have hr1 := fairR_ris l
  have HO1 := Lib.hid (ho1.mono (base' := bb + 1) (by omega))
  have HX1 := Lib.hid (hbx.below' hb1)
  have HB1 := Lib.hid (hal.trans (hb1.mono (by omega)))
  have hs1 := hb1.size
  obtain ⟨q0, q1, q2, q3, q4⟩ := HX1.out.five
  obtain ⟨fl, hfl2⟩ : ∃ fl, fairR l = fl := ⟨_, rfl⟩
  rw [hfl2] at hfl hr1 HO1 HRM
  have HRS := Lib.hid hr1
  clear hal hbx ho1 hb1 hr1 hbb hfl2
  go_wp2_with fail
  refine (named_any x0 x1 x2 x3 x4 w1).mono ?_
  rintro e w2 ⟨rfl, hb2⟩
  have HO2 := Lib.hid (HO1.out.below hb2 (Nat.le_refl _))
  have HX2 := Lib.hid (HX1.out.below' hb2)
  have HB2 := Lib.hid (HB1.out.trans (hb2.mono (by omega)))
  have hs2 := hb2.size
  obtain ⟨nb, hnb⟩ : ∃ r, namedB x0 x1 = r := ⟨_, rfl⟩
  rw [hnb] at HRM ⊢
  clear hb2 hnb q0 q1 q2 q3 q4 HO1 HX1 HB1
  obtain ⟨q0, q1, q2, q3, q4⟩ := HX2.out.five
  cases nb with
  | false =>
    go_wp2_with fail
    refine bodyPost_ret (v := .tuple #[.slice none 0 0, .int .i64 1]) (by simp [results, Try.results30, go_sem]) rfl ?_
    rw [HRM.out]
    exact ⟨_, rfl, Own.nil_ _ _ _ _, HBB.out ▸ HB2.out⟩
  | true =>
    simp only [Bool.true_eq_false, if_false] at HRM
    go_wp2_with fail
    refine (findR_case _ fl x0 false w2 (by omega) HRS.out HO2.out.rd).mono ?_
    rintro e w3 hc1
    have hb3 : Below w2.heap.size w2 w3 := by rcases hc1 with ⟨i, _, _, _, _, _, _, _, hb⟩ | ⟨i, _, _, _, hb⟩ <;> exact hb
    have hd1 : (∃ i : Nat, e = .returned (.tuple #[.int .i64 i, .bool true]) ∧ i < fl.length ∧ findR fl x0 false = some (at_ fl i)) ∨ (∃ i : Nat, i ≤ fl.length ∧ e = .returned (.tuple #[.int .i64 i, .bool false]) ∧ findR fl x0 false = none) := by
      rcases hc1 with ⟨i, h1, h2, h3, _, _, _, _, hb⟩ | ⟨i, h1, h2, h3, hb⟩
      · exact .inl ⟨i, h1, h2, h3⟩
      · exact .inr ⟨i, h1, h2, h3⟩
    have HO3 := Lib.hid (HO2.out.below hb3 (Nat.le_refl _))
    have HX3 := Lib.hid (HX2.out.below' hb3)
    have HB3 := Lib.hid (HB2.out.trans (hb3.mono (by omega)))
    have hs3 := hb3.size
    clear hc1 hb3 q0 q1 q2 q3 q4 HO2 HX2 HB2
    obtain ⟨q0, q1, q2, q3, q4⟩ := HX3.out.five
    rcases hd1 with ⟨i1, rfl, hi1, hf1⟩ | ⟨i1, hi1, rfl, hf1⟩
    · have HV1 := Lib.hid hf1
      clear hf1
      go_wp2_with fail
      refine (findR_case _ fl x0 true w3 (by omega) HRS.out HO3.out.rd).mono ?_
      rintro e w4 hc2
      have hb4 : Below w3.heap.size w3 w4 := by rcases hc2 with ⟨i, _, _, _, _, _, _, _, hb⟩ | ⟨i, _, _, _, hb⟩ <;> exact hb
      have hd2 : (∃ i : Nat, e = .returned (.tuple #[.int .i64 i, .bool true]) ∧ i < fl.length ∧ findR fl x0 true = some (at_ fl i)) ∨ (∃ i : Nat, i ≤ fl.length ∧ e = .returned (.tuple #[.int .i64 i, .bool false]) ∧ findR fl x0 true = none) := by
        rcases hc2 with ⟨i, h1, h2, h3, _, _, _, _, hb⟩ | ⟨i, h1, h2, h3, hb⟩
        · exact .inl ⟨i, h1, h2, h3⟩
        · exact .inr ⟨i, h1, h2, h3⟩
      have HO4 := Lib.hid (HO3.out.below hb4 (Nat.le_refl _))
      have HX4 := Lib.hid (HX3.out.below' hb4)
      have HB4 := Lib.hid (HB3.out.trans (hb4.mono (by omega)))
      have hs4 := hb4.size
      clear hc2 hb4 q0 q1 q2 q3 q4 HO3 HX3 HB3
      obtain ⟨q0, q1, q2, q3, q4⟩ := HX4.out.five
      obtain ⟨A1, cap1, e1⟩ := HO4.out.slice_
      subst e1
      rcases hd2 with ⟨i2, rfl, hi2, hf2⟩ | ⟨i2, hi2, rfl, hf2⟩
      · have HV2 := Lib.hid hf2
        clear hf2
        by_cases e1 : (at_ fl i1).2.1 ≥ x1
        · have HE1 := Lib.hid e1
          have hR4 := HO4.out.rd
          obtain ⟨bg, og, ea, _⟩ := hR4.addr (by omega)
          subst ea
          obtain ⟨_, c1, _, _, _⟩ := rd_re hR4 i1 (by omega)
          obtain ⟨u1, hu1⟩ : ∃ u, (at_ fl i1).2.1 = u := ⟨_, rfl⟩
          rw [hu1] at e1 c1
          clear hR4
          go_wp2_with fail
          go_quiet (fail)
          have HO5 := Lib.hid (HO4.out.drewN nq)
          have HX5 := Lib.hid (HX4.out.drewN nq)
          have HB5 := Lib.hid (below_drewN HB4.out nq)
          have hs5 : w4.heap.size ≤ (w4.drewN nq).heap.size := Nat.le_refl _
          clear HO4 HX4 HB4 q0 q1 q2 q3 q4
          generalize w4.drewN nq = w5 at *
          obtain ⟨q0, q1, q2, q3, q4⟩ := HX5.out.five
          go_wp2_with fail
          refine bodyPost_ret (v := .tuple #[.slice none 0 0, .int .i64 9]) (by simp [results, Try.results30, go_sem]) rfl ?_
          have hr6 := HRM.out
          have hh : ((some (at_ fl i1)).any (fun h => decide (h.2.1 ≥ x1))) = true := decide_eq_true (by have := HE1.out; omega)
          rw [HV1.out, hh, if_pos rfl] at hr6
          rw [hr6]
          exact ⟨_, rfl, Own.nil_ _ _ _ _, HBB.out ▸ HB5.out⟩
        · have HE1 := Lib.hid e1
          have hR4 := HO4.out.rd
          obtain ⟨bg, og, ea, _⟩ := hR4.addr (by omega)
          subst ea
          obtain ⟨_, c1, _, _, _⟩ := rd_re hR4 i1 (by omega)
          obtain ⟨u1, hu1⟩ : ∃ u, (at_ fl i1).2.1 = u := ⟨_, rfl⟩
          rw [hu1] at e1 c1
          have e1' : ¬ u1 ≥ x1 := e1
          clear hR4
          go_wp2_with fail
          go_quiet (fail)
          have HO5 := Lib.hid (HO4.out.drewN nq)
          have HX5 := Lib.hid (HX4.out.drewN nq)
          have HB5 := Lib.hid (below_drewN HB4.out nq)
          have hs5 : w4.heap.size ≤ (w4.drewN nq).heap.size := Nat.le_refl _
          clear HO4 HX4 HB4 q0 q1 q2 q3 q4
          generalize w4.drewN nq = w5 at *
          obtain ⟨q0, q1, q2, q3, q4⟩ := HX5.out.five
          have hrm5 := HRM.out
          have hh : ((some (at_ fl i1)).any (fun h => decide (h.2.1 ≥ x1))) = false := decide_eq_false (by have := HE1.out; omega)
          rw [HV1.out, hh, if_neg (by simp)] at hrm5
          have HRM := Lib.hid hrm5
          clear hrm5 hh c1 hu1 HE1
          have hv2 := HV2.out
          by_cases e2 : (at_ fl i2).2.1 ≥ x1
          · have HE2 := Lib.hid e2
            have hR5 := HO5.out.rd
            obtain ⟨_, d1, _, _, _⟩ := rd_re hR5 i2 (by omega)
            obtain ⟨u2, hu2⟩ : ∃ u, (at_ fl i2).2.1 = u := ⟨_, rfl⟩
            rw [hu2] at e2 d1
            clear hR5
            go_wp2_with fail
            go_quiet (fail)
            have HO6 := Lib.hid (HO5.out.drewN nq)
            have HX6 := Lib.hid (HX5.out.drewN nq)
            have HB6 := Lib.hid (below_drewN HB5.out nq)
            have hs6 : w5.heap.size ≤ (w5.drewN nq).heap.size := Nat.le_refl _
            clear HO5 HX5 HB5 q0 q1 q2 q3 q4
            generalize w5.drewN nq = w6 at *
            obtain ⟨q0, q1, q2, q3, q4⟩ := HX6.out.five
            go_wp2_with fail
            refine bodyPost_ret (v := .tuple #[.slice none 0 0, .int .i64 6]) (by simp [results, Try.results30, go_sem]) rfl ?_
            have hr6 := HRM.out
            have hh : ((some (at_ fl i2)).any (fun h => decide (h.2.1 ≥ x1))) = true := decide_eq_true (by have := HE2.out; omega)
            rw [HV2.out, hh, if_pos rfl] at hr6
            rw [hr6]
            exact ⟨_, rfl, Own.nil_ _ _ _ _, HBB.out ▸ HB6.out⟩
          · have HE2 := Lib.hid e2
            have hR5 := HO5.out.rd
            obtain ⟨_, d1, _, _, _⟩ := rd_re hR5 i2 (by omega)
            obtain ⟨u2, hu2⟩ : ∃ u, (at_ fl i2).2.1 = u := ⟨_, rfl⟩
            rw [hu2] at e2 d1
            have e2' : ¬ u2 ≥ x1 := e2
            clear hR5
            go_wp2_with fail
            go_quiet (fail)
            have HO6 := Lib.hid (HO5.out.drewN nq)
            have HX6 := Lib.hid (HX5.out.drewN nq)
            have HB6 := Lib.hid (below_drewN HB5.out nq)
            have hs6 : w5.heap.size ≤ (w5.drewN nq).heap.size := Nat.le_refl _
            clear HO5 HX5 HB5 q0 q1 q2 q3 q4
            generalize w5.drewN nq = w6 at *
            obtain ⟨q0, q1, q2, q3, q4⟩ := HX6.out.five
            have hrf : bgnR l (x0, x1, x2, x3, x4) room = (0, putR fl (x0, x1, x2, true, false)) := by
              have hh : ((some (at_ fl i2)).any (fun h => decide (h.2.1 ≥ x1))) = false := decide_eq_false (by have := HE2.out; omega)
              rw [HRM.out, HV2.out, hh, if_neg (by simp), if_neg (by simp)]
            have HRM2 := Lib.hid hrf
            clear hrf d1
            have z3 := HX6.out.frozen 3
            have hx7 := HX6.out.set1 3 (.bool true)
            have z4 := hx7.frozen 4
            have y4 := hx7.cell 4
            have hx8 := hx7.set1 4 (.bool false)
            simp only [List.set_cons_succ, List.set_cons_zero, List.getElem?_cons_succ, List.getElem?_cons_zero] at y4 hx8
            obtain ⟨t0, t1, t2, t3, t4⟩ := hx8.five
            have hf8 : Fr (fun k => k = bb) w6 ((w6.setCell ⟨bb, 3, none⟩ (.bool true)).setCell ⟨bb, 4, none⟩ (.bool false)) := (Fr.setCell _ ⟨bb, 3, none⟩ _ (fun k => k = bb) rfl).trans (Fr.setCell _ ⟨bb, 4, none⟩ _ (fun k => k = bb) rfl) (fun _ h => .inl h)
            have HO8 := Lib.hid (HO6.out.fr hf8 (fun g hg e => by have := (HO6.out.blk_lt hg).1; have e' : g = bb := e; omega))
            have HB8 := Lib.hid (HB6.out.trans (hf8.below (B := bb) (by omega) (fun k hk => by have e' : k = bb := hk; omega)))
            have hs8 := hf8.size
            clear hx7 hx8 hf8
            go_wp2_with fail
            clear z3 z4 y4 t0 t1 t2 t3 t4 q0 q1 q2 q3 q4
            generalize ((w6.setCell ⟨bb, 3, none⟩ (.bool true)).setCell ⟨bb, 4, none⟩ (.bool false)) = w8 at *
            refine (putR_any (bb + 1) _ fl (x0, x1, x2, true, false) w8 (by omega) HRS.out (by omega) HO8.out).mono ?_
            rintro e w9 ⟨v9, rfl, ho9, hf9, _⟩
            have HO9 := Lib.hid (ho9.mono (base' := bb) (by omega))
            have HB9 := Lib.hid (HB8.out.trans (hf9.below (B := bb) (by omega) (fun k hk => by have := (HO8.out.blk_lt hk).1; omega)))
            clear ho9 hf9
            go_wp2_with fail
            refine bodyPost_ret (v := .tuple #[v9, .int .i64 0]) (by simp [results, Try.results30, go_sem]) rfl ?_
            rw [HRM2.out]
            exact ⟨_, rfl, HBB.out ▸ HO9.out, HBB.out ▸ HB9.out⟩
      · have HV2 := Lib.hid hf2
        clear hf2
        by_cases e1 : (at_ fl i1).2.1 ≥ x1
        · have HE1 := Lib.hid e1
          have hR4 := HO4.out.rd
          obtain ⟨bg, og, ea, _⟩ := hR4.addr (by omega)
          subst ea
          obtain ⟨_, c1, _, _, _⟩ := rd_re hR4 i1 (by omega)
          obtain ⟨u1, hu1⟩ : ∃ u, (at_ fl i1).2.1 = u := ⟨_, rfl⟩
          rw [hu1] at e1 c1
          clear hR4
          go_wp2_with fail
          go_quiet (fail)
          have HO5 := Lib.hid (HO4.out.drewN nq)
          have HX5 := Lib.hid (HX4.out.drewN nq)
          have HB5 := Lib.hid (below_drewN HB4.out nq)
          have hs5 : w4.heap.size ≤ (w4.drewN nq).heap.size := Nat.le_refl _
          clear HO4 HX4 HB4 q0 q1 q2 q3 q4
          generalize w4.drewN nq = w5 at *
          obtain ⟨q0, q1, q2, q3, q4⟩ := HX5.out.five
          go_wp2_with fail
          refine bodyPost_ret (v := .tuple #[.slice none 0 0, .int .i64 9]) (by simp [results, Try.results30, go_sem]) rfl ?_
          have hr6 := HRM.out
          have hh : ((some (at_ fl i1)).any (fun h => decide (h.2.1 ≥ x1))) = true := decide_eq_true (by have := HE1.out; omega)
          rw [HV1.out, hh, if_pos rfl] at hr6
          rw [hr6]
          exact ⟨_, rfl, Own.nil_ _ _ _ _, HBB.out ▸ HB5.out⟩
        · have HE1 := Lib.hid e1
          have hR4 := HO4.out.rd
          obtain ⟨bg, og, ea, _⟩ := hR4.addr (by omega)
          subst ea
          obtain ⟨_, c1, _, _, _⟩ := rd_re hR4 i1 (by omega)
          obtain ⟨u1, hu1⟩ : ∃ u, (at_ fl i1).2.1 = u := ⟨_, rfl⟩
          rw [hu1] at e1 c1
          have e1' : ¬ u1 ≥ x1 := e1
          clear hR4
          go_wp2_with fail
          go_quiet (fail)
          have HO5 := Lib.hid (HO4.out.drewN nq)
          have HX5 := Lib.hid (HX4.out.drewN nq)
          have HB5 := Lib.hid (below_drewN HB4.out nq)
          have hs5 : w4.heap.size ≤ (w4.drewN nq).heap.size := Nat.le_refl _
          clear HO4 HX4 HB4 q0 q1 q2 q3 q4
          generalize w4.drewN nq = w5 at *
          obtain ⟨q0, q1, q2, q3, q4⟩ := HX5.out.five
          have hrm5 := HRM.out
          have hh : ((some (at_ fl i1)).any (fun h => decide (h.2.1 ≥ x1))) = false := decide_eq_false (by have := HE1.out; omega)
          rw [HV1.out, hh, if_neg (by simp)] at hrm5
          have HRM := Lib.hid hrm5
          clear hrm5 hh c1 hu1 HE1
          by_cases e2 : (fl.length : Int) ≥ room
          · have HE2 := Lib.hid e2
            go_wp2_with fail
            go_quiet (fail)
            have HO6 := Lib.hid (HO5.out.drewN nq)
            have HX6 := Lib.hid (HX5.out.drewN nq)
            have HB6 := Lib.hid (below_drewN HB5.out nq)
            have hs6 : w5.heap.size ≤ (w5.drewN nq).heap.size := Nat.le_refl _
            clear HO5 HX5 HB5 q0 q1 q2 q3 q4
            generalize w5.drewN nq = w6 at *
            obtain ⟨q0, q1, q2, q3, q4⟩ := HX6.out.five
            go_wp2_with fail
            refine bodyPost_ret (v := .tuple #[.slice none 0 0, .int .i64 7]) (by simp [results, Try.results30, go_sem]) rfl ?_
            have hr6 := HRM.out
            have hh : ((none : Option Re).any (fun h => decide (h.2.1 ≥ x1))) = false := rfl
            have hh2 : ((none : Option Re).isNone && decide ((fl.length : Int) ≥ room)) = true := decide_eq_true (by have := HE2.out; omega)
            rw [HV2.out, hh, if_neg (by simp), hh2, if_pos rfl] at hr6
            rw [hr6]
            exact ⟨_, rfl, Own.nil_ _ _ _ _, HBB.out ▸ HB6.out⟩
          · have HE2 := Lib.hid e2
            have e2' : ¬ (fl.length : Int) ≥ room := e2
            go_wp2_with fail
            go_quiet (fail)
            have HO6 := Lib.hid (HO5.out.drewN nq)
            have HX6 := Lib.hid (HX5.out.drewN nq)
            have HB6 := Lib.hid (below_drewN HB5.out nq)
            have hs6 : w5.heap.size ≤ (w5.drewN nq).heap.size := Nat.le_refl _
            clear HO5 HX5 HB5 q0 q1 q2 q3 q4
            generalize w5.drewN nq = w6 at *
            obtain ⟨q0, q1, q2, q3, q4⟩ := HX6.out.five
            have hrf : bgnR l (x0, x1, x2, x3, x4) room = (0, putR fl (x0, x1, x2, true, false)) := by
              have hh : ((none : Option Re).any (fun h => decide (h.2.1 ≥ x1))) = false := rfl
              have hh2 : ((none : Option Re).isNone && decide ((fl.length : Int) ≥ room)) = false := decide_eq_false (by have := HE2.out; omega)
              rw [HRM.out, HV2.out, hh, if_neg (by simp), hh2, if_neg (by simp)]
            have HRM2 := Lib.hid hrf
            clear hrf
            have z3 := HX6.out.frozen 3
            have hx7 := HX6.out.set1 3 (.bool true)
            have z4 := hx7.frozen 4
            have y4 := hx7.cell 4
            have hx8 := hx7.set1 4 (.bool false)
            simp only [List.set_cons_succ, List.set_cons_zero, List.getElem?_cons_succ, List.getElem?_cons_zero] at y4 hx8
            obtain ⟨t0, t1, t2, t3, t4⟩ := hx8.five
            have hf8 : Fr (fun k => k = bb) w6 ((w6.setCell ⟨bb, 3, none⟩ (.bool true)).setCell ⟨bb, 4, none⟩ (.bool false)) := (Fr.setCell _ ⟨bb, 3, none⟩ _ (fun k => k = bb) rfl).trans (Fr.setCell _ ⟨bb, 4, none⟩ _ (fun k => k = bb) rfl) (fun _ h => .inl h)
            have HO8 := Lib.hid (HO6.out.fr hf8 (fun g hg e => by have := (HO6.out.blk_lt hg).1; have e' : g = bb := e; omega))
            have HB8 := Lib.hid (HB6.out.trans (hf8.below (B := bb) (by omega) (fun k hk => by have e' : k = bb := hk; omega)))
            have hs8 := hf8.size
            clear hx7 hx8 hf8
            go_wp2_with fail
            clear z3 z4 y4 t0 t1 t2 t3 t4 q0 q1 q2 q3 q4
            generalize ((w6.setCell ⟨bb, 3, none⟩ (.bool true)).setCell ⟨bb, 4, none⟩ (.bool false)) = w8 at *
            refine (putR_any (bb + 1) _ fl (x0, x1, x2, true, false) w8 (by omega) HRS.out (by omega) HO8.out).mono ?_
            rintro e w9 ⟨v9, rfl, ho9, hf9, _⟩
            have HO9 := Lib.hid (ho9.mono (base' := bb) (by omega))
            have HB9 := Lib.hid (HB8.out.trans (hf9.below (B := bb) (by omega) (fun k hk => by have := (HO8.out.blk_lt hk).1; omega)))
            clear ho9 hf9
            go_wp2_with fail
            refine bodyPost_ret (v := .tuple #[v9, .int .i64 0]) (by simp [results, Try.results30, go_sem]) rfl ?_
            rw [HRM2.out]
            exact ⟨_, rfl, HBB.out ▸ HO9.out, HBB.out ▸ HB9.out⟩
    · have HV1 := Lib.hid hf1
      clear hf1
      go_wp2_with fail
      refine (findR_case _ fl x0 true w3 (by omega) HRS.out HO3.out.rd).mono ?_
      rintro e w4 hc2
      have hb4 : Below w3.heap.size w3 w4 := by rcases hc2 with ⟨i, _, _, _, _, _, _, _, hb⟩ | ⟨i, _, _, _, hb⟩ <;> exact hb
      have hd2 : (∃ i : Nat, e = .returned (.tuple #[.int .i64 i, .bool true]) ∧ i < fl.length ∧ findR fl x0 true = some (at_ fl i)) ∨ (∃ i : Nat, i ≤ fl.length ∧ e = .returned (.tuple #[.int .i64 i, .bool false]) ∧ findR fl x0 true = none) := by
        rcases hc2 with ⟨i, h1, h2, h3, _, _, _, _, hb⟩ | ⟨i, h1, h2, h3, hb⟩
        · exact .inl ⟨i, h1, h2, h3⟩
        · exact .inr ⟨i, h1, h2, h3⟩
      have HO4 := Lib.hid (HO3.out.below hb4 (Nat.le_refl _))
      have HX4 := Lib.hid (HX3.out.below' hb4)
      have HB4 := Lib.hid (HB3.out.trans (hb4.mono (by omega)))
      have hs4 := hb4.size
      clear hc2 hb4 q0 q1 q2 q3 q4 HO3 HX3 HB3
      obtain ⟨q0, q1, q2, q3, q4⟩ := HX4.out.five
      obtain ⟨A1, cap1, e1⟩ := HO4.out.slice_
      subst e1
      rcases hd2 with ⟨i2, rfl, hi2, hf2⟩ | ⟨i2, hi2, rfl, hf2⟩
      · have HV2 := Lib.hid hf2
        clear hf2
        go_wp2_with fail
        go_quiet (fail)
        have HO5 := Lib.hid (HO4.out.drewN nq)
        have HX5 := Lib.hid (HX4.out.drewN nq)
        have HB5 := Lib.hid (below_drewN HB4.out nq)
        have hs5 : w4.heap.size ≤ (w4.drewN nq).heap.size := Nat.le_refl _
        clear HO4 HX4 HB4 q0 q1 q2 q3 q4
        generalize w4.drewN nq = w5 at *
        obtain ⟨q0, q1, q2, q3, q4⟩ := HX5.out.five
        have hrm5 := HRM.out
        have hh : ((none : Option Re).any (fun h => decide (h.2.1 ≥ x1))) = false := rfl
        rw [HV1.out, hh, if_neg (by simp)] at hrm5
        have HRM := Lib.hid hrm5
        clear hrm5 hh
        have hv2 := HV2.out
        by_cases e2 : (at_ fl i2).2.1 ≥ x1
        · have HE2 := Lib.hid e2
          have hR5 := HO5.out.rd
          obtain ⟨bg, og, ea, _⟩ := hR5.addr (by omega)
          subst ea
          obtain ⟨_, d1, _, _, _⟩ := rd_re hR5 i2 (by omega)
          obtain ⟨u2, hu2⟩ : ∃ u, (at_ fl i2).2.1 = u := ⟨_, rfl⟩
          rw [hu2] at e2 d1
          clear hR5
          go_wp2_with fail
          go_quiet (fail)
          have HO6 := Lib.hid (HO5.out.drewN nq)
          have HX6 := Lib.hid (HX5.out.drewN nq)
          have HB6 := Lib.hid (below_drewN HB5.out nq)
          have hs6 : w5.heap.size ≤ (w5.drewN nq).heap.size := Nat.le_refl _
          clear HO5 HX5 HB5 q0 q1 q2 q3 q4
          generalize w5.drewN nq = w6 at *
          obtain ⟨q0, q1, q2, q3, q4⟩ := HX6.out.five
          go_wp2_with fail
          refine bodyPost_ret (v := .tuple #[.slice none 0 0, .int .i64 6]) (by simp [results, Try.results30, go_sem]) rfl ?_
          have hr6 := HRM.out
          have hh : ((some (at_ fl i2)).any (fun h => decide (h.2.1 ≥ x1))) = true := decide_eq_true (by have := HE2.out; omega)
          rw [HV2.out, hh, if_pos rfl] at hr6
          rw [hr6]
          exact ⟨_, rfl, Own.nil_ _ _ _ _, HBB.out ▸ HB6.out⟩
        · have HE2 := Lib.hid e2
          have hR5 := HO5.out.rd
          obtain ⟨bg, og, ea, _⟩ := hR5.addr (by omega)
          subst ea
          obtain ⟨_, d1, _, _, _⟩ := rd_re hR5 i2 (by omega)
          obtain ⟨u2, hu2⟩ : ∃ u, (at_ fl i2).2.1 = u := ⟨_, rfl⟩
          rw [hu2] at e2 d1
          have e2' : ¬ u2 ≥ x1 := e2
          clear hR5
          go_wp2_with fail
          go_quiet (fail)
          have HO6 := Lib.hid (HO5.out.drewN nq)
          have HX6 := Lib.hid (HX5.out.drewN nq)
          have HB6 := Lib.hid (below_drewN HB5.out nq)
          have hs6 : w5.heap.size ≤ (w5.drewN nq).heap.size := Nat.le_refl _
          clear HO5 HX5 HB5 q0 q1 q2 q3 q4
          generalize w5.drewN nq = w6 at *
          obtain ⟨q0, q1, q2, q3, q4⟩ := HX6.out.five
          have hrf : bgnR l (x0, x1, x2, x3, x4) room = (0, putR fl (x0, x1, x2, true, false)) := by
            have hh : ((some (at_ fl i2)).any (fun h => decide (h.2.1 ≥ x1))) = false := decide_eq_false (by have := HE2.out; omega)
            rw [HRM.out, HV2.out, hh, if_neg (by simp), if_neg (by simp)]
          have HRM2 := Lib.hid hrf
          clear hrf d1
          have z3 := HX6.out.frozen 3
          have hx7 := HX6.out.set1 3 (.bool true)
          have z4 := hx7.frozen 4
          have y4 := hx7.cell 4
          have hx8 := hx7.set1 4 (.bool false)
          simp only [List.set_cons_succ, List.set_cons_zero, List.getElem?_cons_succ, List.getElem?_cons_zero] at y4 hx8
          obtain ⟨t0, t1, t2, t3, t4⟩ := hx8.five
          have hf8 : Fr (fun k => k = bb) w6 ((w6.setCell ⟨bb, 3, none⟩ (.bool true)).setCell ⟨bb, 4, none⟩ (.bool false)) := (Fr.setCell _ ⟨bb, 3, none⟩ _ (fun k => k = bb) rfl).trans (Fr.setCell _ ⟨bb, 4, none⟩ _ (fun k => k = bb) rfl) (fun _ h => .inl h)
          have HO8 := Lib.hid (HO6.out.fr hf8 (fun g hg e => by have := (HO6.out.blk_lt hg).1; have e' : g = bb := e; omega))
          have HB8 := Lib.hid (HB6.out.trans (hf8.below (B := bb) (by omega) (fun k hk => by have e' : k = bb := hk; omega)))
          have hs8 := hf8.size
          clear hx7 hx8 hf8
          go_wp2_with fail
          clear z3 z4 y4 t0 t1 t2 t3 t4 q0 q1 q2 q3 q4
          generalize ((w6.setCell ⟨bb, 3, none⟩ (.bool true)).setCell ⟨bb, 4, none⟩ (.bool false)) = w8 at *
          refine (putR_any (bb + 1) _ fl (x0, x1, x2, true, false) w8 (by omega) HRS.out (by omega) HO8.out).mono ?_
          rintro e w9 ⟨v9, rfl, ho9, hf9, _⟩
          have HO9 := Lib.hid (ho9.mono (base' := bb) (by omega))
          have HB9 := Lib.hid (HB8.out.trans (hf9.below (B := bb) (by omega) (fun k hk => by have := (HO8.out.blk_lt hk).1; omega)))
          clear ho9 hf9
          go_wp2_with fail
          refine bodyPost_ret (v := .tuple #[v9, .int .i64 0]) (by simp [results, Try.results30, go_sem]) rfl ?_
          rw [HRM2.out]
          exact ⟨_, rfl, HBB.out ▸ HO9.out, HBB.out ▸ HB9.out⟩
      · have HV2 := Lib.hid hf2
        clear hf2
        go_wp2_with fail
        go_quiet (fail)
        have HO5 := Lib.hid (HO4.out.drewN nq)
        have HX5 := Lib.hid (HX4.out.drewN nq)
        have HB5 := Lib.hid (below_drewN HB4.out nq)
        have hs5 : w4.heap.size ≤ (w4.drewN nq).heap.size := Nat.le_refl _
        clear HO4 HX4 HB4 q0 q1 q2 q3 q4
        generalize w4.drewN nq = w5 at *
        obtain ⟨q0, q1, q2, q3, q4⟩ := HX5.out.five
        have hrm5 := HRM.out
        have hh : ((none : Option Re).any (fun h => decide (h.2.1 ≥ x1))) = false := rfl
        rw [HV1.out, hh, if_neg (by simp)] at hrm5
        have HRM := Lib.hid hrm5
        clear hrm5 hh
        by_cases e2 : (fl.length : Int) ≥ room
        · have HE2 := Lib.hid e2
          go_wp2_with fail
          go_quiet (fail)
          have HO6 := Lib.hid (HO5.out.drewN nq)
          have HX6 := Lib.hid (HX5.out.drewN nq)
          have HB6 := Lib.hid (below_drewN HB5.out nq)
          have hs6 : w5.heap.size ≤ (w5.drewN nq).heap.size := Nat.le_refl _
          clear HO5 HX5 HB5 q0 q1 q2 q3 q4
          generalize w5.drewN nq = w6 at *
          obtain ⟨q0, q1, q2, q3, q4⟩ := HX6.out.five
          go_wp2_with fail
          refine bodyPost_ret (v := .tuple #[.slice none 0 0, .int .i64 7]) (by simp [results, Try.results30, go_sem]) rfl ?_
          have hr6 := HRM.out
          have hh : ((none : Option Re).any (fun h => decide (h.2.1 ≥ x1))) = false := rfl
          have hh2 : ((none : Option Re).isNone && decide ((fl.length : Int) ≥ room)) = true := decide_eq_true (by have := HE2.out; omega)
          rw [HV2.out, hh, if_neg (by simp), hh2, if_pos rfl] at hr6
          rw [hr6]
          exact ⟨_, rfl, Own.nil_ _ _ _ _, HBB.out ▸ HB6.out⟩
        · have HE2 := Lib.hid e2
          have e2' : ¬ (fl.length : Int) ≥ room := e2
          go_wp2_with fail
          go_quiet (fail)
          have HO6 := Lib.hid (HO5.out.drewN nq)
          have HX6 := Lib.hid (HX5.out.drewN nq)
          have HB6 := Lib.hid (below_drewN HB5.out nq)
          have hs6 : w5.heap.size ≤ (w5.drewN nq).heap.size := Nat.le_refl _
          clear HO5 HX5 HB5 q0 q1 q2 q3 q4
          generalize w5.drewN nq = w6 at *
          obtain ⟨q0, q1, q2, q3, q4⟩ := HX6.out.five
          have hrf : bgnR l (x0, x1, x2, x3, x4) room = (0, putR fl (x0, x1, x2, true, false)) := by
            have hh : ((none : Option Re).any (fun h => decide (h.2.1 ≥ x1))) = false := rfl
            have hh2 : ((none : Option Re).isNone && decide ((fl.length : Int) ≥ room)) = false := decide_eq_false (by have := HE2.out; omega)
            rw [HRM.out, HV2.out, hh, if_neg (by simp), hh2, if_neg (by simp)]
          have HRM2 := Lib.hid hrf
          clear hrf
          have z3 := HX6.out.frozen 3
          have hx7 := HX6.out.set1 3 (.bool true)
          have z4 := hx7.frozen 4
          have y4 := hx7.cell 4
          have hx8 := hx7.set1 4 (.bool false)
          simp only [List.set_cons_succ, List.set_cons_zero, List.getElem?_cons_succ, List.getElem?_cons_zero] at y4 hx8
          obtain ⟨t0, t1, t2, t3, t4⟩ := hx8.five
          have hf8 : Fr (fun k => k = bb) w6 ((w6.setCell ⟨bb, 3, none⟩ (.bool true)).setCell ⟨bb, 4, none⟩ (.bool false)) := (Fr.setCell _ ⟨bb, 3, none⟩ _ (fun k => k = bb) rfl).trans (Fr.setCell _ ⟨bb, 4, none⟩ _ (fun k => k = bb) rfl) (fun _ h => .inl h)
          have HO8 := Lib.hid (HO6.out.fr hf8 (fun g hg e => by have := (HO6.out.blk_lt hg).1; have e' : g = bb := e; omega))
          have HB8 := Lib.hid (HB6.out.trans (hf8.below (B := bb) (by omega) (fun k hk => by have e' : k = bb := hk; omega)))
          have hs8 := hf8.size
          clear hx7 hx8 hf8
          go_wp2_with fail
          clear z3 z4 y4 t0 t1 t2 t3 t4 q0 q1 q2 q3 q4
          generalize ((w6.setCell ⟨bb, 3, none⟩ (.bool true)).setCell ⟨bb, 4, none⟩ (.bool false)) = w8 at *
          refine (putR_any (bb + 1) _ fl (x0, x1, x2, true, false) w8 (by omega) HRS.out (by omega) HO8.out).mono ?_
          rintro e w9 ⟨v9, rfl, ho9, hf9, _⟩
          have HO9 := Lib.hid (ho9.mono (base' := bb) (by omega))
          have HB9 := Lib.hid (HB8.out.trans (hf9.below (B := bb) (by omega) (fun k hk => by have := (HO8.out.blk_lt hk).1; omega)))
          clear ho9 hf9
          go_wp2_with fail
          refine bodyPost_ret (v := .tuple #[v9, .int .i64 0]) (by simp [results, Try.results30, go_sem]) rfl ?_
          rw [HRM2.out]
          exact ⟨_, rfl, HBB.out ▸ HO9.out, HBB.out ▸ HB9.out⟩

end Go.Proofs.Ytncgpojjibojlaa

/- slices.Clone, nodes.fair, slices.BinarySearchFunc, nodes.place, nodes.Find at nodes: their contracts. -/
import Derived.Test.YtflndnbjdhbppaaNodes
import Derived.Test.YtflndnbjdhbppaaBox
import Derived.Lib.SliceRun
namespace Go.Proofs.Ytflndnbjdhbppaa
open Go Go.RowKit

theorem infoNode : (Try.prog.info? 58).map (fun i => (i.zero, i.size, i.bytes)) = some (some (.agg #[.int .i64 0, .int .i64 0, .int .i64 0, .int .i64 0]), 4, 32) := by kernel_rfl

/-- A slice of the call's own, laid anew. -/
def FreshE (e : TypeId) (size n : Nat) (xs : List Value) (w : World) (en : Ending) (w' : World) : Prop := ∃ v', en = .returned v' ∧ Own w' w.heap.size e size v' n xs ∧ Below w.heap.size w w'

theorem clone_no (v : Value) (l : List Nq) (w : World) (hl : l.length ≤ 1000) (hR : Rd w 4 v l.length (l.flatMap noC)) :
    Calls Try.prog 72 #[v] w (FreshE 58 4 l.length (l.flatMap noC) w) := by
  obtain ⟨ii, hii, hz0, hz1, hz2⟩ := info_parts infoNode
  obtain ⟨A, cap, hv, hcap, hnc⟩ := hR.shape
  subst hv
  have HR := Lib.hid hR
  clear hR
  have hq := fun w a n c => Lib.run_eql_slice_nil (P := Try.prog) w 40 58 a n c 0 0 Try.underlying40
  cases A with
  | none =>
    have h0 : l.length = 0 := by
      rcases Nat.eq_zero_or_pos l.length with h | h
      · exact h
      · obtain ⟨b, off, hA, _⟩ := HR.out.addr h
        cases hA
    have hl0 : l = [] := List.eq_nil_of_length_eq_zero h0
    subst hl0
    go_enter Try.func72, Try.ntmps72
    go_wp2
    go_ret
    exact ⟨_, rfl, Own.nil_ _ _ _ _, Below.refl _ _⟩
  | some a =>
    go_enter Try.func72, Try.ntmps72
    go_wp2_with (at_builtin; refine wpList_append_seg rfl _ _ 40 rfl w.heap.size 58 ii _ 4 32 (by kernel_rfl) hii hz0 hz1 hz2 rfl (by omega) (.slice (some ⟨w.heap.size, 0, none⟩) 0 0) 0 [] rfl ⟨by simp, .inl ⟨_, rfl, rfl⟩⟩ (.slice (some a) l.length cap) l.length (l.flatMap noC) rfl (HR.out.alloc _) (noC_one l) (by unfold maxLen; omega) (by omega) (by simp) ?_; intro v1 w1 hown1 hfr1 hb1 _)
    go_ret
    refine ⟨_, rfl, ?_, ?_⟩
    · simpa using hown1
    · exact (below_one w _).trans (hfr1.below (by simp) (fun i hi => by simp [blk] at hi))

theorem fair_any (v : Value) (l : List Nq) (w : World) (hl : l.length ≤ 1000) (hR : Rd w 4 v l.length (l.flatMap noC)) :
    Calls Try.prog 59 #[v] w (FreshE 58 4 (fairL l).length ((fairL l).flatMap noC) w) := by
  have HR := Lib.hid hR
  clear hR
  cases hm : mayL l with
  | true =>
    rw [fairL_of hm]
    have HM := Lib.hid hm
    clear hm
    go_enter Try.func59, Try.ntmps59
    go_wp2_with (go_at_call 71; refine (May_any v l w HR.out).mono ?_; rintro e w1 ⟨rfl, hb1⟩; rw [HM.out])
    refine (clone_no v l w1 hl (HR.out.below hb1 (Nat.le_refl _))).mono ?_
    rintro e w2 ⟨v', rfl, hown, hb2⟩
    go_wp2_with fail
    go_ret
    exact ⟨_, rfl, hown.mono hb1.size, below_then hb1 hb2⟩
  | false =>
    have e : fairL l = [] := by simp [fairL, hm]
    rw [e]
    have HM := Lib.hid hm
    clear hm e
    go_enter Try.func59, Try.ntmps59
    go_wp2_with (go_at_call 71; refine (May_any v l w HR.out).mono ?_; rintro e w1 ⟨rfl, hb1⟩; rw [HM.out])
    go_ret
    exact ⟨_, rfl, Own.nil_ _ _ _ _, hb1⟩

theorem place1_any (x : Nq) (id : Int) (w : World) :
    Calls Try.prog 74 #[.agg #[.int .i64 x.1, .int .i64 x.2.1, .int .i64 x.2.2.1, .int .i64 x.2.2.2], .int .i64 id] w fun e w' => e = .returned (.int .i64 (cmpI (noI x) id)) ∧ Below w.heap.size w w' := by
  obtain ⟨a, b, c, d⟩ := x
  simp only [noI]
  go_enter Try.func74, Try.ntmps74
  go_wp2_with (go_at_call 50; refine (cmp_any _ _ _).mono ?_; rintro e w1 ⟨rfl, rfl⟩)
  go_ret
  exact ⟨rfl, below_one _ _⟩

def SearchE (l : List Nq) (id : Int) (w : World) (e : Ending) (w' : World) : Prop := ∃ i : Nat, Cut noI l id i ∧ e = .returned (.tuple #[.int .i64 i, .bool (isAt noI l id i)]) ∧ Below w.heap.size w w'

set_option maxHeartbeats 1000000 in
theorem search_no (A : Option Addr) (cap : Nat) (l : List Nq) (id : Int) (w : World) (hl : l.length ≤ 1000) (hR : Rd w 4 (.slice A l.length cap) l.length (l.flatMap noC)) (hris : Ris noI l) :
    Calls Try.prog 73 #[.slice A l.length cap, .int .i64 id, .func (.func 74) #[] #[]] w (SearchE l id w) := by
  obtain ⟨n, hn⟩ : ∃ n, l.length = n := ⟨_, rfl⟩
  have HR := Lib.hid hR
  have HN := Lib.hid hn
  have HRis := Lib.hid hris
  rw [hn] at hl ⊢
  clear hR hn hris
  go_enter Try.func73, Try.ntmps73
  go_wp2_with fail
  go_loopw [9, 10] (fun s9 s10 wr => ∃ (i j : Nat), s9 = .int .i64 i ∧ s10 = .int .i64 j ∧ i ≤ j ∧ j ≤ n ∧ (∀ k, k < i → noI (at_ l k) < id) ∧ (∀ k, j ≤ k → k < n → id ≤ noI (at_ l k)) ∧ Below w.heap.size w wr) (fun s9 s10 _ => (intOf s10).toNat - (intOf s9).toNat)
  case atStart => exact ⟨0, n, rfl, rfl, by omega, by omega, fun j hj => absurd hj (by omega), fun k h1 h2 => absurd h1 (by omega), Below.refl _ _⟩
  case round =>
    obtain ⟨i, j, rfl, rfl, hij, hjn, hlo, hhi, hbel⟩ := hrel
    have HLo := Lib.hid hlo
    have HHi := Lib.hid hhi
    have HB := Lib.hid hbel
    clear hlo hhi hbel
    by_cases hlt : i < j
    · have hltI : (i : Int) < (j : Int) := by omega
      have hR1 := HR.out.below HB.out (Nat.le_refl _)
      rw [HN.out] at hR1
      obtain ⟨b, off, hA, hbl⟩ := hR1.addr (by omega)
      subst hA
      obtain ⟨c0, c1, c2, c3⟩ := rd_no hR1 ((i + j) / 2) (by rw [HN.out]; omega)
      obtain ⟨x, hx⟩ : ∃ x, at_ l ((i + j) / 2) = x := ⟨_, rfl⟩
      rw [hx] at c0 c1 c2 c3
      have HX := Lib.hid hx
      clear hx hR1
      have hlt2 := cmpI_lt (noI x) id
      have HLT := Lib.hid hlt2
      clear hlt2
      go_wp2_with (go_at_call 74; refine (place1_any x id _).mono ?_; rintro e w1 ⟨rfl, hb1⟩; have HB1 := Lib.hid hb1; clear hb1)
      · have h1 : cmpI (noI x) id < 0 := by assumption
        go_roundw
        case rel =>
          refine ⟨(i + j) / 2 + 1, j, by go_num, rfl, by omega, by omega, fun k hk => ?_, HHi.out, below_then HB.out HB1.out⟩
          have hxi := HLT.out.1 h1
          rcases Nat.lt_or_ge k ((i + j) / 2) with e | e
          · have := HRis.out.lt e (by rw [HN.out]; omega)
            rw [HX.out] at this
            omega
          · obtain rfl : k = (i + j) / 2 := by omega
            rw [HX.out]
            exact hxi
        case measure => simp [intOf]; omega
      · have h1 : ¬ cmpI (noI x) id < 0 := by omega
        go_roundw
        case rel =>
          refine ⟨i, (i + j) / 2, rfl, by go_num, by omega, by omega, HLo.out, fun k hk hkn => ?_, below_then HB.out HB1.out⟩
          have hxi : ¬ noI x < id := fun h => h1 (HLT.out.2 h)
          rcases Nat.lt_or_ge ((i + j) / 2) k with e | e
          · have := HRis.out.lt e (by rw [HN.out]; omega)
            rw [HX.out] at this
            omega
          · obtain rfl : k = (i + j) / 2 := by omega
            rw [HX.out]
            omega
        case measure => simp [intOf]; omega
    · obtain rfl : i = j := by omega
      by_cases hi : i < n
      · have hiI : (i : Int) < (n : Int) := by omega
        have hR1 := HR.out.below HB.out (Nat.le_refl _)
        rw [HN.out] at hR1
        obtain ⟨b, off, hA, hbl⟩ := hR1.addr (by omega)
        subst hA
        obtain ⟨c0, c1, c2, c3⟩ := rd_no hR1 i (by rw [HN.out]; omega)
        obtain ⟨x, hx⟩ : ∃ x, at_ l i = x := ⟨_, rfl⟩
        rw [hx] at c0 c1 c2 c3
        have HX := Lib.hid hx
        clear hx hR1
        go_wp2_with (go_at_call 74; refine (place1_any x id _).mono ?_; rintro e w1 ⟨rfl, hb1⟩; have HB1 := Lib.hid hb1; clear hb1)
        go_ret2
        refine ⟨i, ⟨by rw [HN.out]; omega, HLo.out, fun k h1 h2 => HHi.out k h1 (by rw [← HN.out]; exact h2)⟩, ?_, below_then HB.out HB1.out⟩
        have e : isAt noI l id i = (cmpI (noI x) id == 0) := by
          unfold isAt
          rw [HN.out, HX.out, Bool.eq_iff_iff]
          simp [hi, cmpI_eq]
        rw [e]
        rfl
      · obtain rfl : i = n := by omega
        go_wp2_with fail
        go_ret2
        refine ⟨i, ⟨by rw [HN.out]; omega, HLo.out, fun k h1 h2 => HHi.out k h1 (by rw [← HN.out]; exact h2)⟩, ?_, HB.out⟩
        have e : isAt noI l id i = false := decide_eq_false (fun h => by have := h.1; rw [HN.out] at this; omega)
        rw [e]
        rfl

theorem place_any (A : Option Addr) (cap : Nat) (l : List Nq) (id : Int) (w : World) (hl : l.length ≤ 1000) (hR : Rd w 4 (.slice A l.length cap) l.length (l.flatMap noC)) (hris : Ris noI l) :
    Calls Try.prog 60 #[.slice A l.length cap, .int .i64 id] w (SearchE l id w) := by
  have HR := Lib.hid hR
  have HRis := Lib.hid hris
  clear hR hris
  go_enter Try.func60, Try.ntmps60
  go_wp2_with (go_at_call 73; refine (search_no A cap l id _ hl HR.out HRis.out).mono ?_; rintro e w1 ⟨i, hc, rfl, hb1⟩)
  go_ret2
  exact ⟨i, hc, rfl, hb1⟩

def noV (x : Nq) : Value := .agg #[.int .i64 x.1, .int .i64 x.2.1, .int .i64 x.2.2.1, .int .i64 x.2.2.2]
def optN (o : Option Nq) : Nq := o.getD (0, 0, 0, 0)

set_option maxHeartbeats 1000000 in
theorem find_any (v : Value) (l : List Nq) (id : Int) (w : World) (hl : l.length ≤ 1000) (hR : Rd w 4 v l.length (l.flatMap noC)) :
    Calls Try.prog 35 #[v, .int .i64 id] w fun e w' => e = .returned (.tuple #[noV (optN (findL l id)), .bool (findL l id).isSome]) ∧ Below w.heap.size w w' := by
  have HR := Lib.hid hR
  clear hR
  have hfl := fairL_len l
  go_enter Try.func35, Try.ntmps35
  go_wp2_with fail
  have hal := below_one w (.cells #[.int .i64 0, .int .i64 0, .int .i64 0, .int .i64 0] 58)
  refine (fair_any v l _ hl (HR.out.below hal (Nat.le_refl _))).mono ?_
  rintro e w1 ⟨v1, rfl, hown1, hb1⟩
  obtain ⟨A1, cap1, hv1⟩ := hown1.slice_
  subst hv1
  obtain ⟨m, hm⟩ : ∃ m, (fairL l).length = m := ⟨_, rfl⟩
  have HM := Lib.hid hm
  have HO1 := Lib.hid hown1
  have HB1 := Lib.hid hb1
  have HAL := Lib.hid hal
  rw [hm] at hfl ⊢
  clear hown1 hb1 hm hal
  have HBx1 : Hid (Bx w1 w.heap.size 58 [.int .i64 0, .int .i64 0, .int .i64 0, .int .i64 0]) := (Bx.new w _ _).below HB1.out (by simp)
  go_wp2_with fail
  refine (by have := place_any A1 cap1 (fairL l) id w1 (by rw [HM.out]; omega) HO1.out.rd (fairL_ris l); rw [HM.out] at this; exact this : Calls Try.prog 60 #[.slice A1 m cap1, .int .i64 id] w1 (SearchE (fairL l) id w1)).mono ?_
  rintro e w2 ⟨i, hc, rfl, hb2⟩
  have hfd := hc.find (fairL_ris l)
  have HFD := Lib.hid (show findL l id = _ from hfd)
  clear hfd
  have HB2 := Lib.hid hb2
  have HBx2 := Lib.hid (HBx1.out.below' hb2)
  have HO2 := Lib.hid (HO1.out.below hb2 (Nat.le_refl _))
  have hle := hc.le
  clear hc hb2
  have HBel := Lib.hid (below_then (below_then HAL.out HB1.out) HB2.out)
  have hBw : w.heap.size < w2.heap.size := HBx2.out.lt
  cases hat : isAt noI (fairL l) id i with
  | true =>
    have hi := (of_decide_eq_true hat).1
    rw [HM.out] at hi
    have HF : Hid (findL l id = some (at_ (fairL l) i)) := by have := HFD.out; rw [hat] at this; exact this
    clear hat
    have hiI : (i : Int) < (m : Int) := by omega
    have hO2 := HO2.out.rd
    rw [HM.out] at hO2
    obtain ⟨b, off, hA, hbl⟩ := hO2.addr (by omega)
    subst hA
    obtain ⟨c0, c1, c2, c3⟩ := rd_no hO2 i (by rw [HM.out]; omega)
    obtain ⟨x, hx⟩ : ∃ x, at_ (fairL l) i = x := ⟨_, rfl⟩
    rw [hx] at c0 c1 c2 c3
    obtain ⟨x0, x1, x2, x3⟩ := x
    simp only at c0 c1 c2 c3
    have HX := Lib.hid hx
    clear hx hO2
    go_wp2_with (with_reducible refine wpList_store_box rfl 58 _ _ rfl w.heap.size 58 _ [.int .i64 x0, .int .i64 x1, .int .i64 x2, .int .i64 x3] rfl HBx2.out rfl rfl ?hk ?hl ?hm)
    case hk => kernel_rfl
    case hl => simp [Value.oneCell']
    case hm =>
      intro w3 hbx3 hfr3
      obtain ⟨q0, q1, q2, q3⟩ := hbx3.four
      go_wp2_with fail
      refine bodyPost_ret (v := .tuple #[noV (x0, x1, x2, x3), .bool true]) ?_ rfl ⟨by rw [HF.out, HX.out]; rfl, ?_⟩
      · simp [results, Try.results35, go_sem, noV, q0, q1, q2, q3]
      · exact HBel.out.trans (hfr3.below (by omega) (fun k hk => by omega))
  | false =>
    have HF : Hid (findL l id = none) := by have := HFD.out; rw [hat] at this; exact this
    clear hat
    go_wp2_with (with_reducible refine wpList_store_box rfl 58 _ _ rfl w.heap.size 58 _ [.int .i64 0, .int .i64 0, .int .i64 0, .int .i64 0] rfl HBx2.out rfl rfl ?hk ?hl ?hm)
    case hk => kernel_rfl
    case hl => simp [Value.oneCell']
    case hm =>
      intro w3 hbx3 hfr3
      obtain ⟨q0, q1, q2, q3⟩ := hbx3.four
      go_wp2_with fail
      refine bodyPost_ret (v := .tuple #[noV (0, 0, 0, 0), .bool false]) ?_ rfl ⟨by rw [HF.out]; rfl, ?_⟩
      · simp [results, Try.results35, go_sem, noV, q0, q1, q2, q3]
      · exact HBel.out.trans (hfr3.below (by omega) (fun k hk => by omega))

end Go.Proofs.Ytflndnbjdhbppaa

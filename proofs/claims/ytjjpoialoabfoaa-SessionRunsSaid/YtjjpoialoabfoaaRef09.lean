/- sutureref09: may, May, find, Look: their contracts. -/
import Derived.Test.YtjjpoialoabfoaaSessP
namespace Go.Proofs.Ytjjpoialoabfoaa
open Go Go.RowKit

theorem rmay_any (a b : Int) (w : World) :
    Calls Try.prog 18 #[.int .i64 a, .int .i64 b] w fun e w' => e = .returned (.bool (mayS (a, b, 0))) ∧ w = w' := by
  have key : ∀ r : Bool, mayS (a, b, 0) = r → Calls Try.prog 18 #[.int .i64 a, .int .i64 b] w fun e w' => e = .returned (.bool r) ∧ w = w' := by
    intro r hr
    have hN : mayS (a, b, 0) = decide ((1 ≤ a ∧ a ≤ 1048576) ∧ (1 ≤ b ∧ b ≤ 1099511627776)) := rfl
    rw [hN] at hr
    by_cases h1 : 1 ≤ a
    · by_cases h2 : a ≤ 1048576
      · by_cases h3 : 1 ≤ b
        · by_cases h4 : b ≤ 1099511627776
          · obtain rfl : r = true := by rw [← hr]; exact decide_eq_true ⟨⟨h1, h2⟩, h3, h4⟩
            clear hr hN
            go_enter Try.func18, Try.ntmps18
            go_wp2
            go_ret
            exact ⟨rfl, rfl⟩
          · obtain rfl : r = false := by rw [← hr]; exact decide_eq_false (fun h => by omega)
            clear hr hN
            go_enter Try.func18, Try.ntmps18
            go_wp2
            go_ret
            exact ⟨rfl, rfl⟩
        · obtain rfl : r = false := by rw [← hr]; exact decide_eq_false (fun h => by omega)
          clear hr hN
          go_enter Try.func18, Try.ntmps18
          go_wp2
          go_ret
          exact ⟨rfl, rfl⟩
      · obtain rfl : r = false := by rw [← hr]; exact decide_eq_false (fun h => by omega)
        clear hr hN
        go_enter Try.func18, Try.ntmps18
        go_wp2
        go_ret
        exact ⟨rfl, rfl⟩
    · obtain rfl : r = false := by rw [← hr]; exact decide_eq_false (fun h => by omega)
      clear hr hN
      go_enter Try.func18, Try.ntmps18
      go_wp2
      go_ret
      exact ⟨rfl, rfl⟩
  exact key _ rfl

set_option maxHeartbeats 2000000 in
theorem rMay_any (v : Value) (l : List Se) (w : World) (hR : Rd w 3 v l.length (l.flatMap seC)) :
    Calls Try.prog 12 #[v] w fun e w' => e = .returned (.bool (maySL l)) ∧ Below w.heap.size w w' := by
  obtain ⟨A, cap, hv, hcap, hnc⟩ := hR.shape
  subst hv
  obtain ⟨n, hn⟩ : ∃ n, l.length = n := ⟨_, rfl⟩
  have HR := Lib.hid hR
  have HN := Lib.hid hn
  rw [hn] at hnc ⊢
  clear hR hn
  by_cases h16 : (16 : Int) < (n : Int)
  · go_enter Try.func12, Try.ntmps12
    go_wp2_with fail
    go_ret
    refine ⟨?_, Below.refl _ _⟩
    rw [show maySL l = false from decide_eq_false (fun h => by have := h.2.2; have := HN.out; omega)]
    rfl
  · have hn16 : n ≤ 16 := by omega
    go_enter Try.func12, Try.ntmps12
    go_wp2_with fail
    go_loopw [3] (fun s3 wr => ∃ (k : Nat), s3 = .int .i64 k ∧ k ≤ n ∧ (∀ j, j < k → maySP (at_ l j) ∧ (0 < j → (at_ l (j - 1)).1 < (at_ l j).1)) ∧ Below w.heap.size w wr) (fun s3 _ => n - (intOf s3).toNat)
    case atStart => exact ⟨0, rfl, by omega, fun j hj => absurd hj (by omega), Below.refl _ _⟩
    case round =>
      obtain ⟨k, rfl, hk, hall, hbel⟩ := hrel
      have HA := Lib.hid hall
      have HB := Lib.hid hbel
      clear hall hbel
      by_cases hlt : k < n
      · have hltI : (k : Int) < (n : Int) := by omega
        have hR1 := HR.out.below HB.out (Nat.le_refl _)
        rw [HN.out] at hR1
        obtain ⟨b, off, hA, hbl⟩ := hR1.addr (by omega)
        subst hA
        obtain ⟨c0, c1, c2⟩ := rd_se hR1 k (by rw [HN.out]; exact hlt)
        obtain ⟨x, hx⟩ : ∃ x, at_ l k = x := ⟨_, rfl⟩
        rw [hx] at c0 c1 c2
        obtain ⟨x0, x1, x2⟩ := x
        simp only at c0 c1 c2
        have HX := Lib.hid hx
        have HR1 := Lib.hid hR1
        clear hx hR1
        go_wp2_with fail
        go_quiet ((go_at_call 18; exact Calls.quiet_of_same ((rmay_any _ _ _).mono fun _ _ h => ⟨h.1, h.2.symm⟩)))
        have HB1 := Lib.hid (below_drewN HB.out nq)
        have hR2 := HR1.out.drewN nq
        generalize wr.drewN nq = w1 at *
        obtain ⟨y0, _, _⟩ := rd_se hR2 k (by rw [HN.out]; exact hlt)
        rw [HX.out] at y0
        simp only at y0
        clear c0 c1 c2
        obtain ⟨r, hr⟩ : ∃ r, mayS (x0, x1, 0) = r := ⟨_, rfl⟩
        rw [hr]
        have HM := Lib.hid hr
        clear hr
        cases r with
        | false =>
          clear hR2
          go_wp2_with fail
          go_quiet (fail)
          go_wp2_with fail
          go_ret
          refine ⟨?_, below_drewN HB1.out _⟩
          rw [maySL_bad (l := l) (k := k) (by rw [HN.out]; exact hlt)]; rfl
          intro ⟨g1, g2, g3⟩
          rw [HX.out] at g1
          exact absurd g1 (of_decide_eq_false HM.out)
        | true =>
          by_cases hk0 : 0 < k
          · have hk0I : (0 : Int) < (k : Int) := by omega
            obtain ⟨z0, _, _⟩ := rd_se hR2 (k - 1) (by rw [HN.out]; omega)
            obtain ⟨z, hz⟩ : ∃ z, (at_ l (k - 1)).1 = z := ⟨_, rfl⟩
            rw [hz] at z0
            have HZ := Lib.hid hz
            clear hz hR2
            obtain ⟨j, rfl⟩ : ∃ j, k = j + 1 := ⟨k - 1, by omega⟩
            simp only [Nat.add_sub_cancel] at z0 HZ
            by_cases hle : x0 ≤ z
            · go_wp2_with fail
              go_quiet (fail)
              go_wp2_with fail
              go_ret
              refine ⟨?_, below_drewN HB1.out _⟩
              rw [maySL_bad (l := l) (k := j + 1) (by rw [HN.out]; exact hlt)]; rfl
              intro ⟨g1, g2, g3⟩
              have := g2 hk0
              rw [Nat.add_sub_cancel, HX.out, HZ.out] at this
              simp only at this
              omega
            · have hd : decide (x0 ≤ z) = false := decide_eq_false hle
              go_wp2_with fail
              go_quiet (fail)
              go_wp2_with fail
              go_roundw
              case rel =>
                refine ⟨j + 1 + 1, by go_num, by omega, fun i hi => ?_, below_drewN HB1.out _⟩
                by_cases e : i = j + 1
                · subst e
                  refine ⟨by rw [HX.out]; exact of_decide_eq_true HM.out, fun h0 => ?_⟩
                  rw [Nat.add_sub_cancel, HX.out, HZ.out]
                  simp only
                  omega
                · exact HA.out i (by omega)
              case measure => simp [intOf]; omega
          · obtain rfl : k = 0 := by omega
            clear hR2
            go_wp2_with fail
            go_quiet (fail)
            go_wp2_with fail
            go_roundw
            case rel =>
              refine ⟨1, by go_num, by omega, fun i hi => ?_, below_drewN HB1.out _⟩
              obtain rfl : i = 0 := by omega
              exact ⟨by rw [HX.out]; exact of_decide_eq_true HM.out, fun h0 => absurd h0 (by omega)⟩
            case measure => simp [intOf]; omega
      · obtain rfl : k = n := by omega
        go_wp2_with fail
        go_ret
        exact ⟨by rw [maySL_good (l := l) (by rw [HN.out]; exact HA.out), HN.out, decide_eq_true hn16]; rfl, HB.out⟩

theorem find_step_se {l : List Se} {id : Int} {k : Nat} (h : ∀ j, j < k → key_se (at_ l j) ≠ id) (hk : k < l.length) (he : key_se (at_ l k) = id) : l.find? (fun x => key_se x == id) = some (at_ l k) := by
  rw [List.find?_eq_some_iff_getElem]
  refine ⟨by simpa using he, k, hk, (at_eq hk).symm, fun j hj => ?_⟩
  have := h j hj
  rw [at_eq (show j < l.length by omega)] at this
  simpa using this
theorem find_stop_se {l : List Se} {id : Int} (h : ∀ j, j < l.length → key_se (at_ l j) ≠ id) : l.find? (fun x => key_se x == id) = none := by
  rw [List.find?_eq_none]
  intro x hx
  obtain ⟨j, hj, rfl⟩ := mem_at hx
  simpa using h j hj
def seV (x : Se) : Value := .agg #[.int .i64 x.1, .int .i64 x.2.1, .int .i64 x.2.2]

set_option maxHeartbeats 2000000 in
theorem rfind_any (v : Value) (l : List Se) (id : Int) (w : World) (hR : Rd w 3 v l.length (l.flatMap seC)) :
    Calls Try.prog 19 #[v, .int .i64 id] w fun e w' => e = .returned (seV (sesS l id)) ∧ Below w.heap.size w w' := by
  obtain ⟨A1, cap1, hv1, hcap1, hnc1⟩ := hR.shape
  subst hv1
  obtain ⟨m, hm⟩ : ∃ m, l.length = m := ⟨_, rfl⟩
  have HM := Lib.hid hm
  have HR := Lib.hid hR
  rw [hm] at hnc1 ⊢
  have hm63 : m ≤ 9223372036854775807 := by omega
  clear hR hm
  go_enter Try.func19, Try.ntmps19
  go_wp2_with fail
  have HB1 := Lib.hid (below_one w (.cells #[.int .i64 0, .int .i64 0, .int .i64 0] 37))
  have HX1 := Lib.hid (Bx.new w 37 [.int .i64 0, .int .i64 0, .int .i64 0])
  change Hid (Bx (w.alloc (.cells #[.int .i64 0, .int .i64 0, .int .i64 0] 37)) _ _ _) at HX1
  have HR1 := Lib.hid (HR.out.below HB1.out (Nat.le_refl _))
  have hBw : w.heap.size < (w.alloc (.cells #[.int .i64 0, .int .i64 0, .int .i64 0] 37)).heap.size := by simp
  generalize w.alloc (.cells #[.int .i64 0, .int .i64 0, .int .i64 0] 37) = w1 at *
  go_loopw [5] (fun s5 wr => ∃ k : Nat, s5 = .int .i64 k ∧ k ≤ m ∧ (∀ j, j < k → key_se (at_ l j) ≠ id) ∧ wr = w1) (fun s5 _ => m - (intOf s5).toNat)
  case atStart => exact ⟨0, rfl, by omega, fun j hj => absurd hj (by omega), rfl⟩
  case round =>
    obtain ⟨k, rfl, hk, hall, rfl⟩ := hrel
    have HA := Lib.hid hall
    clear hall
    by_cases hlt : k < m
    · have hltI : (k : Int) < (m : Int) := by omega
      have hR1 := HR1.out
      rw [HM.out] at hR1
      obtain ⟨b, off, hA, hbl⟩ := hR1.addr (by omega)
      subst hA
      obtain ⟨c0, c1, c2⟩ := rd_se hR1 k (by rw [HM.out]; exact hlt)
      obtain ⟨x, hx⟩ : ∃ x, at_ l k = x := ⟨_, rfl⟩
      rw [hx] at c0 c1 c2
      obtain ⟨x0, x1, x2⟩ := x
      simp only at c0 c1 c2
      have HX := Lib.hid hx
      clear hx hR1
      by_cases he : x0 = id
      · subst he
        go_wp2_with (with_reducible refine wpList_store_box rfl 37 _ _ rfl w.heap.size 37 _ [.int .i64 x0, .int .i64 x1, .int .i64 x2] rfl HX1.out rfl rfl ?hk ?hl ?hm)
        case hk => kernel_rfl
        case hl => simp [Value.oneCell']
        case hm =>
          intro w3 hbx3 hfr3
          obtain ⟨q0, q1, q2⟩ := hbx3.three
          go_wp2_with fail
          have HF : sesS l x0 = (x0, x1, x2) := by
            have := find_step_se HA.out (by rw [HM.out]; exact hlt) (by rw [HX.out]; rfl)
            rw [HX.out] at this
            unfold sesS
            rw [this]
            rfl
          refine bodyPost_ret (v := seV (x0, x1, x2)) ?_ rfl ⟨by rw [HF], ?_⟩
          · simp [results, Try.results19, go_sem, seV, q0, q1, q2]
          · exact HB1.out.trans (hfr3.below (by omega) (fun k hk => by omega))
      · have he' : (x0 == id) = false := by simpa using he
        go_wp2_with fail
        go_roundw
        case rel => exact ⟨k + 1, by go_num, by omega, fun j hj => by
          by_cases e : j = k
          · subst e; rw [HX.out]; exact he
          · exact HA.out j (by omega), trivial⟩
        case measure => simp [intOf]; omega
    · obtain rfl : k = m := by omega
      go_wp2_with (with_reducible refine wpList_store_box rfl 37 _ _ rfl w.heap.size 37 _ [.int .i64 0, .int .i64 0, .int .i64 0] rfl HX1.out rfl rfl ?hk ?hl ?hm)
      case hk => kernel_rfl
      case hl => simp [Value.oneCell']
      case hm =>
        intro w3 hbx3 hfr3
        obtain ⟨q0, q1, q2⟩ := hbx3.three
        go_wp2_with fail
        have HF : sesS l id = (0, 0, 0) := by unfold sesS; rw [find_stop_se (by rw [HM.out]; exact HA.out)]; rfl
        refine bodyPost_ret (v := seV (0, 0, 0)) ?_ rfl ⟨by rw [HF], ?_⟩
        · simp [results, Try.results19, go_sem, seV, q0, q1, q2]
        · exact HB1.out.trans (hfr3.below (by omega) (fun k hk => by omega))

end Go.Proofs.Ytjjpoialoabfoaa

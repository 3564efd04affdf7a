/- slices.BinarySearchFunc at replicas by their order, replica.find: their contracts. -/
import Derived.Test.YtncgpojjibojlaaReNq
namespace Go.Proofs.Ytncgpojjibojlaa
open Go Go.RowKit Go.Sort

def SearchR (l : List Re) (k : Int) (w : World) (e : Ending) (w' : World) : Prop := ∃ (i : Nat) (b : Bool), i ≤ l.length ∧ e = .returned (.tuple #[.int .i64 i, .bool b]) ∧ Below w.heap.size w w' ∧ (Ris kR l → Cut kR l k i ∧ b = isAt kR l k i)

set_option maxHeartbeats 4000000 in
set_option maxRecDepth 100000 in
theorem searchR (A : Option Addr) (cap : Nat) (l : List Re) (x : Re) (w : World) (hl : l.length ≤ 1000) (hR : Rd w 5 (.slice A l.length cap) l.length (l.flatMap reC)) :
    Calls Try.prog 93 #[.slice A l.length cap, .agg #[.int .i64 x.1, .int .i64 x.2.1, .int .u32 x.2.2.1, .bool x.2.2.2.1, .bool x.2.2.2.2], .func (.func 74) #[] #[]] w (SearchR l (kR x) w) := by
  obtain ⟨n, hn⟩ : ∃ n, l.length = n := ⟨_, rfl⟩
  have HR := Lib.hid hR
  have HN := Lib.hid hn
  rw [hn] at hl ⊢
  have CO := fun (y : Re) (w' : World) => orderR_any y x w'
  have HLT := fun (y : Re) => ordR_lt y x
  have HEQ := fun (y : Re) => ordR_eq y x
  obtain ⟨kx, hkx⟩ : ∃ k, kR x = k := ⟨_, rfl⟩
  rw [hkx]
  simp only [hkx] at HLT HEQ
  obtain ⟨od, hod⟩ : ∃ f : Re → Int, ∀ y, ordR y x = f y := ⟨_, fun _ => rfl⟩
  simp only [hod] at CO HLT HEQ
  have HCO := Lib.hid CO
  have HLT' := Lib.hid HLT
  have HEQ' := Lib.hid HEQ
  obtain ⟨x0, x1, x2, x3, x4⟩ := x
  simp only at HCO
  clear hR hn hkx hod CO HLT HEQ
  go_enter Try.func93, Try.ntmps93
  go_wp2_with fail
  have bx0 := Bx.new w 52 [.int .i64 x0, .int .i64 x1, .int .u32 x2, .bool x3, .bool x4]
  change Bx (w.alloc (.cells #[.int .i64 x0, .int .i64 x1, .int .u32 x2, .bool x3, .bool x4] 52)) _ _ _ at bx0
  have hal := below_one w (.cells #[.int .i64 x0, .int .i64 x1, .int .u32 x2, .bool x3, .bool x4] 52)
  generalize (w.alloc (.cells #[.int .i64 x0, .int .i64 x1, .int .u32 x2, .bool x3, .bool x4] 52)) = w0 at *
  obtain ⟨bb, hbb⟩ : ∃ b, w.heap.size = b := ⟨_, rfl⟩
  rw [hbb] at bx0 ⊢
  have BX0 := Lib.hid bx0
  have HAL := Lib.hid hal
  have HBB := Lib.hid hbb
  clear bx0 hal hbb
  go_loopw [9, 10] (fun s9 s10 wr => ∃ (i j : Nat), s9 = .int .i64 i ∧ s10 = .int .i64 j ∧ i ≤ j ∧ j ≤ n ∧ (Ris kR l → (∀ k, k < i → kR (at_ l k) < kx) ∧ (∀ k, j ≤ k → k < n → kx ≤ kR (at_ l k))) ∧ Below w0.heap.size w0 wr) (fun s9 s10 _ => (intOf s10).toNat - (intOf s9).toNat)
  case atStart => exact ⟨0, n, rfl, rfl, by omega, by omega, fun _ => ⟨fun j hj => absurd hj (by omega), fun k h1 h2 => absurd h1 (by omega)⟩, Below.refl _ _⟩
  case round =>
    obtain ⟨i, j, rfl, rfl, hij, hjn, hinv, hbel⟩ := hrel
    have HV := Lib.hid hinv
    have HB := Lib.hid hbel
    obtain ⟨q0, q1, q2, q3, q4⟩ := (BX0.out.below' hbel).five
    have G0 := fun d os => cell_regrown q0 d os
    have G1 := fun d os => cell_regrown q1 d os
    have G2 := fun d os => cell_regrown q2 d os
    have G3 := fun d os => cell_regrown q3 d os
    have G4 := fun d os => cell_regrown q4 d os
    clear hinv hbel
    by_cases hlt : i < j
    · have hltI : (i : Int) < (j : Int) := by omega
      have hR1 := (HR.out.below HAL.out (Nat.le_refl _)).below HB.out (Nat.le_refl _)
      rw [HN.out] at hR1
      obtain ⟨b, off, hA, hbl⟩ := hR1.addr (by omega)
      subst hA
      obtain ⟨z0, z1, z2, z3, z4⟩ := rd_re hR1 ((i + j) / 2) (by rw [HN.out]; omega)
      obtain ⟨y, hy⟩ : ∃ y, at_ l ((i + j) / 2) = y := ⟨_, rfl⟩
      rw [hy] at z0 z1 z2 z3 z4
      have HY := Lib.hid hy
      have CO := HCO.out y
      have hlt2 := HLT'.out y
      obtain ⟨oo, hoo⟩ : ∃ o, od y = o := ⟨_, rfl⟩
      rw [hoo] at hlt2
      simp only [hoo] at CO
      have HLT := Lib.hid hlt2
      obtain ⟨y0, y1, y2, y3, y4⟩ := y
      simp only at z0 z1 z2 z3 z4 CO
      have F0 := fun d os => cell_regrown z0 d os
      have F1 := fun d os => cell_regrown z1 d os
      have F2 := fun d os => cell_regrown z2 d os
      have F3 := fun d os => cell_regrown z3 d os
      have F4 := fun d os => cell_regrown z4 d os
      clear hy hR1 hoo hlt2
      go_wp2_with fail
      refine wp_region_quiet_below (by kernel_rfl) (by kernel_rfl) ?_
      repeat (go_big_quiet_step ((go_at_call 74; exact Calls.regrown_of (CO _))))
      refine wpQuiet_nil ?_
      intro _ hw'
      obtain ⟨⟨dd, os⟩, hw''⟩ := hw'
      subst hw''
      have HB1 := Lib.hid (below_then HB.out (below_regrown wr dd os))
      generalize Go.Sort.grow (redrawn wr dd) os = w3 at *
      clear F0 F1 F2 F3 F4 G0 G1 G2 G3 G4 CO z0 z1 z2 z3 z4 q0 q1 q2 q3 q4
      by_cases h1 : oo < 0
      · go_wp2_with fail
        go_roundw
        case rel =>
          refine ⟨(i + j) / 2 + 1, j, by go_num, rfl, by omega, by omega, fun hris => ⟨fun k hk => ?_, (HV.out hris).2⟩, HB1.out⟩
          have hxi := HLT.out.1 h1
          rcases Nat.lt_or_ge k ((i + j) / 2) with e | e
          · have := hris.lt e (by rw [HN.out]; omega)
            rw [HY.out] at this
            omega
          · obtain rfl : k = (i + j) / 2 := by omega
            rw [HY.out]
            exact hxi
        case measure => simp [intOf]; omega
      · have h1' : ¬ oo < 0 := h1
        go_wp2_with fail
        go_roundw
        case rel =>
          refine ⟨i, (i + j) / 2, rfl, by go_num, by omega, by omega, fun hris => ⟨(HV.out hris).1, fun k hk hkn => ?_⟩, HB1.out⟩
          have hxi : ¬ kR (y0, y1, y2, y3, y4) < kx := fun h => h1 (HLT.out.2 h)
          rcases Nat.lt_or_ge ((i + j) / 2) k with e | e
          · have := hris.lt e (by rw [HN.out]; omega)
            rw [HY.out] at this
            omega
          · obtain rfl : k = (i + j) / 2 := by omega
            rw [HY.out]
            omega
        case measure => simp [intOf]; omega
    · obtain rfl : i = j := by omega
      by_cases hi : i < n
      · have hiI : (i : Int) < (n : Int) := by omega
        have hR1 := (HR.out.below HAL.out (Nat.le_refl _)).below HB.out (Nat.le_refl _)
        rw [HN.out] at hR1
        obtain ⟨b, off, hA, hbl⟩ := hR1.addr (by omega)
        subst hA
        obtain ⟨z0, z1, z2, z3, z4⟩ := rd_re hR1 i (by rw [HN.out]; omega)
        obtain ⟨y, hy⟩ : ∃ y, at_ l i = y := ⟨_, rfl⟩
        rw [hy] at z0 z1 z2 z3 z4
        have HY := Lib.hid hy
        have CO := HCO.out y
        have heq := HEQ'.out y
        obtain ⟨oo, hoo⟩ : ∃ o, od y = o := ⟨_, rfl⟩
        rw [hoo] at heq
        simp only [hoo] at CO
        have HEQ := Lib.hid heq
        obtain ⟨y0, y1, y2, y3, y4⟩ := y
        simp only at z0 z1 z2 z3 z4 CO
        have F0 := fun d os => cell_regrown z0 d os
        have F1 := fun d os => cell_regrown z1 d os
        have F2 := fun d os => cell_regrown z2 d os
        have F3 := fun d os => cell_regrown z3 d os
        have F4 := fun d os => cell_regrown z4 d os
        clear hy hR1 hoo heq
        go_wp2_with fail
        refine wp_region_quiet_below (by kernel_rfl) (by kernel_rfl) ?_
        repeat (go_big_quiet_step ((go_at_call 74; exact Calls.regrown_of (CO _))))
        refine wpQuiet_nil ?_
        intro _ hw'
        obtain ⟨⟨dd, os⟩, hw''⟩ := hw'
        subst hw''
        have HB1 := Lib.hid (below_then HB.out (below_regrown wr dd os))
        generalize Go.Sort.grow (redrawn wr dd) os = w3 at *
        clear F0 F1 F2 F3 F4 G0 G1 G2 G3 G4 CO z0 z1 z2 z3 z4 q0 q1 q2 q3 q4
        go_wp2_with fail
        go_ret2
        refine ⟨i, _, by rw [HN.out]; omega, rfl, HAL.out.trans (HB1.out.mono HAL.out.size), fun hris => ⟨⟨by rw [HN.out]; omega, (HV.out hris).1, fun k h1 h2 => (HV.out hris).2 k h1 (by rw [← HN.out]; exact h2)⟩, ?_⟩⟩
        unfold isAt
        rw [HN.out, HY.out, Bool.eq_iff_iff]
        simp [hi, HEQ.out]
      · obtain rfl : i = n := by omega
        have hii : ¬ (i : Int) < (i : Int) := by omega
        go_wp2_with fail
        go_quiet (fail)
        go_wp2_with fail
        go_ret2
        refine ⟨i, _, by rw [HN.out]; omega, rfl, below_drewN (HAL.out.trans (HB.out.mono HAL.out.size)) _, fun hris => ⟨⟨by rw [HN.out]; omega, (HV.out hris).1, fun k h1 h2 => (HV.out hris).2 k h1 (by rw [← HN.out]; exact h2)⟩, ?_⟩⟩
        exact (decide_eq_false (fun h => by have := h.1; rw [HN.out] at this; omega)).symm

/-- Where it stands, or would. -/
def FindR (l : List Re) (c : Int) (t : Bool) (w : World) (e : Ending) (w' : World) : Prop := ∃ (i : Nat) (b : Bool), i ≤ l.length ∧ e = .returned (.tuple #[.int .i64 i, .bool b]) ∧ Below w.heap.size w w' ∧ (Ris kR l → Cut kR l (2 * c + flI t) i ∧ b = isAt kR l (2 * c + flI t) i)

theorem findR_any (v : Value) (l : List Re) (c : Int) (t : Bool) (w : World) (hl : l.length ≤ 1000) (hR : Rd w 5 v l.length (l.flatMap reC)) :
    Calls Try.prog 71 #[v, .int .i64 c, .bool t] w (FindR l c t w) := by
  obtain ⟨A, cap, hv, hcap, hnc⟩ := hR.shape
  subst hv
  have HR := Lib.hid hR
  clear hR
  go_enter Try.func71, Try.ntmps71
  go_wp2_with fail
  refine (searchR A cap l (c, 0, 0, t, false) w hl HR.out).mono ?_
  rintro e w1 ⟨i, b, hi, rfl, hb1, hris⟩
  have HB1 := Lib.hid hb1
  have HRI := Lib.hid hris
  clear hb1 hris
  go_wp2_with fail
  go_ret2
  exact ⟨i, b, hi, rfl, HB1.out, HRI.out⟩

end Go.Proofs.Ytncgpojjibojlaa

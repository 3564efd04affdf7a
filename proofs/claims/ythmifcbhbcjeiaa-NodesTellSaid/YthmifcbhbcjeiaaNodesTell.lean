/- NodesTell: the walk. -/
import Derived.Test.YthmifcbhbcjeiaaAwake12
import Derived.Test.YthmifcbhbcjeiaaRef12R
import Derived.Test.YthmifcbhbcjeiaaInts
namespace Go.Proofs.Ythmifcbhbcjeiaa
open Go Go.RowKit

set_option maxHeartbeats 2000000 in
set_option maxRecDepth 100000 in
theorem nodesTell_walk (v : Value) (l : List Nq) (id : Int) (vi : Value) (ids : List Int) (state : Int) (W : World) (hR : Rd W 4 v l.length (l.flatMap noC)) (hI : Rd W 1 vi ids.length (ids.flatMap inC)) :
    Calls Try.prog 4 #[v, .int .i64 id, vi, .int .i64 state] W fun e w' => e = .returned (.bool true) ∧ Below W.heap.size W w' := by
  obtain ⟨A, cap, hv, hcap, hnc⟩ := hR.shape
  obtain ⟨Ai, capi, hvi, hcapi, hnci⟩ := hI.shape
  obtain ⟨n, hn⟩ : ∃ n, l.length = n := ⟨_, rfl⟩
  obtain ⟨m, hm⟩ : ∃ m, ids.length = m := ⟨_, rfl⟩
  have HR := Lib.hid hR
  have HI := Lib.hid hI
  have HN := Lib.hid hn
  have HM := Lib.hid hm
  rw [hn] at hv
  rw [hm] at hvi
  subst hv hvi
  rw [hn] at hnc
  rw [hm] at hnci
  clear hR hI hn hm
  go_enter Try.func4, Try.ntmps4
  go_wp2_with fail
  refine (awake12 _).mono ?_
  rintro e w1 ⟨rfl, hb1⟩
  have HB1 := Lib.hid hb1
  clear hb1
  by_cases h1 : (50 : Int) < (n : Int)
  · go_wp2_with fail
    go_ret
    exact ⟨rfl, HB1.out⟩
  · by_cases h2 : (50 : Int) < (m : Int)
    · go_wp2_with fail
      go_ret
      exact ⟨rfl, HB1.out⟩
    · have hn50 : n ≤ 50 := by omega
      have hm50 : m ≤ 50 := by omega
      have HL := Lib.hid (show l.length ≤ 1000 by have := HN.out; omega)
      have HLi := Lib.hid (show ids.length ≤ 1000 by have := HM.out; omega)
      go_wp2_with fail
      have hR1 := HR.out.below HB1.out (Nat.le_refl _)
      refine (find_any _ l id w1 HL.out hR1).mono ?_
      rintro e w2 ⟨rfl, hb2⟩
      obtain ⟨o, ho⟩ : ∃ o, findL l id = o := ⟨_, rfl⟩
      obtain ⟨⟨x0, x1, x2, x3⟩, hx⟩ : ∃ x, optN o = x := ⟨_, rfl⟩
      rw [ho, hx]
      have HO := Lib.hid ho
      have HX := Lib.hid hx
      have HB2 := Lib.hid (below_then HB1.out hb2)
      clear hb2 hR1 ho hx
      simp only [noV]
      go_wp2_with fail
      have hal := below_one w2 (.cells #[.int .i64 x0, .int .i64 x1, .int .i64 x2, .int .i64 x3] 28)
      have HX2 := Lib.hid (Bx.new w2 28 [.int .i64 x0, .int .i64 x1, .int .i64 x2, .int .i64 x3])
      have HB3 := Lib.hid (below_then HB2.out hal)
      refine (refFind_any _ l id _ (HR.out.below HB3.out (Nat.le_refl _))).mono ?_
      rintro e w4 ⟨rfl, hb4⟩
      rw [HO.out, HX.out]
      have HX4 := Lib.hid (HX2.out.below' hb4)
      have HB4 := Lib.hid (below_then HB3.out hb4)
      clear hb4 hal
      simp only [noV]
      go_wp2_with fail
      have hal := below_one w4 (.cells #[.int .i64 x0, .int .i64 x1, .int .i64 x2, .int .i64 x3] 28)
      have hY5 := Bx.new w4 28 [.int .i64 x0, .int .i64 x1, .int .i64 x2, .int .i64 x3]
      have hX5 := HX4.out.below' hal
      have HB5 := Lib.hid (below_then HB4.out hal)
      refine (in_any _ l state _ HL.out (HR.out.below HB5.out (Nat.le_refl _))).mono ?_
      rintro e w6 ⟨v6, rfl, ho6, hb6⟩
      have hY6 := hY5.below' hb6
      have hX6 := hX5.below' hb6
      have HB6 := Lib.hid (below_then HB5.out hb6)
      have HO6 := Lib.hid ho6
      clear hb6 hal hY5 hX5 ho6
      go_wp2_with fail
      refine (refIn_any _ l state _ HL.out (HR.out.below HB6.out (Nat.le_refl _))).mono ?_
      rintro e w7 ⟨v7, rfl, ho7, hb7⟩
      have hY7 := hY6.below' hb7
      have hX7 := hX6.below' hb7
      have HB7 := Lib.hid (below_then HB6.out hb7)
      have HO67 := Lib.hid (HO6.out.below hb7 (Nat.le_refl _))
      have HO7 := Lib.hid ho7
      clear hb7 hY6 hX6 ho7
      go_wp2_with fail
      refine (ints_any v6 v7 (inL l state) (inL l state) w7 HO67.out.rd HO7.out.rd).mono ?_
      rintro e w8 ⟨rfl, hb8⟩
      rw [decide_eq_true rfl]
      have hY8 := hY7.below' hb8
      have hX8 := hX7.below' hb8
      have HB8 := Lib.hid (below_then HB7.out hb8)
      obtain ⟨q0, q1, q2, q3⟩ := hX8.four
      obtain ⟨r0, r1, r2, r3⟩ := hY8.four
      clear hb8 hY7 hX7 hX8 hY8
      go_wp2_with fail
      refine (May_any _ l w8 (HR.out.below HB8.out (Nat.le_refl _))).mono ?_
      rintro e w9 ⟨rfl, hb9⟩
      have HB9 := Lib.hid (below_then HB8.out hb9)
      obtain ⟨mb, hmb⟩ : ∃ mb, mayL l = mb := ⟨_, rfl⟩
      rw [hmb]
      have HMB := Lib.hid hmb
      clear hb9 hmb q0 q1 q2 q3 r0 r1 r2 r3
      go_wp2_with fail
      refine (refMay_any _ l w9 (HR.out.below HB9.out (Nat.le_refl _))).mono ?_
      rintro e w10 ⟨rfl, hb10⟩
      have HB10 := Lib.hid (below_then HB9.out hb10)
      rw [HMB.out]
      clear hb10
      go_wp2_with fail
      refine (racks_any _ _ l ids w10 HL.out HLi.out (HR.out.below HB10.out (Nat.le_refl _)) (HI.out.below HB10.out (Nat.le_refl _))).mono ?_
      rintro e w11 ⟨rfl, hb11⟩
      have HB11 := Lib.hid (below_then HB10.out hb11)
      obtain ⟨rn, hrn⟩ : ∃ rn, racksN l ids = rn := ⟨_, rfl⟩
      rw [hrn]
      have HRN := Lib.hid hrn
      clear hb11 hrn
      go_wp2_with fail
      refine (refRacks_any _ _ l ids w11 HLi.out (HR.out.below HB11.out (Nat.le_refl _)) (HI.out.below HB11.out (Nat.le_refl _))).mono ?_
      rintro e w12 ⟨rfl, hb12⟩
      have HB12 := Lib.hid (below_then HB11.out hb12)
      rw [HRN.out]
      clear hb12
      go_wp2_with fail
      go_ret
      exact ⟨rfl, HB12.out⟩

end Go.Proofs.Ythmifcbhbcjeiaa

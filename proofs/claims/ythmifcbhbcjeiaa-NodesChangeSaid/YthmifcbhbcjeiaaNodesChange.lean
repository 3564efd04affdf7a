/- NodesChange: the walk. -/
import Derived.Test.YthmifcbhbcjeiaaAwake12
import Derived.Test.YthmifcbhbcjeiaaNodesL
import Derived.Test.YthmifcbhbcjeiaaNodesSL
import Derived.Test.YthmifcbhbcjeiaaRef12A
import Derived.Test.YthmifcbhbcjeiaaSameNo
namespace Go.Proofs.Ythmifcbhbcjeiaa
open Go Go.RowKit

theorem addO_may (l : List Nq) (x : Nq) : mayL (addO l x) = true := by
  by_cases h : addE l x = 0
  · exact (addE_ok h).2.2.2.2
  · unfold addO
    rw [if_neg h]
    rfl

set_option maxHeartbeats 4000000 in
set_option maxRecDepth 100000 in
theorem nodesChange_walk (v : Value) (l : List Nq) (x : Nq) (id st : Int) (W : World) (hR : Rd W 4 v l.length (l.flatMap noC)) :
    Calls Try.prog 10 #[v, .agg #[.int .i64 x.1, .int .i64 x.2.1, .int .i64 x.2.2.1, .int .i64 x.2.2.2], .int .i64 id, .int .i64 st] W fun e w' => e = .returned (.bool true) ∧ Below W.heap.size W w' := by
  obtain ⟨A, cap, hv, hcap, hnc⟩ := hR.shape
  obtain ⟨n, hn⟩ : ∃ n, l.length = n := ⟨_, rfl⟩
  have HR := Lib.hid hR
  have HN := Lib.hid hn
  rw [hn] at hv hnc
  subst hv
  obtain ⟨x0, x1, x2, x3⟩ := x
  simp only
  clear hR hn
  go_enter Try.func10, Try.ntmps10
  go_wp2_with fail
  have hal := below_one W (.cells #[.int .i64 x0, .int .i64 x1, .int .i64 x2, .int .i64 x3] 28)
  have hbx := Bx.new W 28 [.int .i64 x0, .int .i64 x1, .int .i64 x2, .int .i64 x3]
  change Bx (W.alloc (.cells #[.int .i64 x0, .int .i64 x1, .int .i64 x2, .int .i64 x3] 28)) _ _ _ at hbx
  generalize W.alloc (.cells #[.int .i64 x0, .int .i64 x1, .int .i64 x2, .int .i64 x3] 28) = w0 at *
  refine (awake12 _).mono ?_
  rintro e w1 ⟨rfl, hb1⟩
  have HB1 := Lib.hid (below_then hal hb1)
  have HX1 := Lib.hid (hbx.below' hb1)
  obtain ⟨B, hB⟩ : ∃ B, W.heap.size = B := ⟨_, rfl⟩
  rw [hB] at HX1 ⊢
  clear hb1 hal hbx
  obtain ⟨q0, q1, q2, q3⟩ := HX1.out.four
  have HBB := Lib.hid hB
  clear hB
  by_cases h1 : (50 : Int) < (n : Int)
  · go_wp2_with fail
    go_ret
    exact ⟨rfl, HBB.out ▸ HB1.out⟩
  · have HL := Lib.hid (show l.length ≤ 50 by have := HN.out; omega)
    go_wp2_with fail
    refine (add_any _ l (x0, x1, x2, x3) w1 (by have := HL.out; omega) (HR.out.below HB1.out (Nat.le_refl _))).mono ?_
    rintro e w2 ⟨v2, rfl, ho2, hb2⟩
    have HB2 := Lib.hid (below_then HB1.out hb2)
    have HO2 := Lib.hid ho2.rd
    have HX2 := Lib.hid (HX1.out.below' hb2)
    clear hb2 ho2 q0 q1 q2 q3
    obtain ⟨q0, q1, q2, q3⟩ := HX2.out.four
    obtain ⟨e0, he0⟩ : ∃ e0, addE l (x0, x1, x2, x3) = e0 := ⟨_, rfl⟩
    rw [he0]
    have HE := Lib.hid he0
    clear he0
    go_wp2_with fail
    refine (radd_any _ l (x0, x1, x2, x3) w2 (by have := HL.out; omega) (HR.out.below HB2.out (Nat.le_refl _))).mono ?_
    rintro e w3 ⟨v3, rfl, ho3, hb3⟩
    rw [HE.out]
    have HB3 := Lib.hid (below_then HB2.out hb3)
    have HO3 := Lib.hid ho3.rd
    have HO23 := Lib.hid (HO2.out.below hb3 (Nat.le_refl _))
    clear hb3 ho3 q0 q1 q2 q3
    go_wp2_with fail
    refine (set_any _ l id st w3 (by have := HL.out; omega) (HR.out.below HB3.out (Nat.le_refl _))).mono ?_
    rintro e w4 ⟨v4, rfl, ho4, hb4⟩
    obtain ⟨e1, he1⟩ : ∃ e1, setE l id st = e1 := ⟨_, rfl⟩
    rw [he1]
    have HE1 := Lib.hid he1
    have HB4 := Lib.hid (below_then HB3.out hb4)
    have HO4 := Lib.hid ho4.rd
    have HO24 := Lib.hid (HO23.out.below hb4 (Nat.le_refl _))
    have HO34 := Lib.hid (HO3.out.below hb4 (Nat.le_refl _))
    clear hb4 ho4 he1
    go_wp2_with fail
    refine (rset_any _ l id st w4 (by have := HL.out; omega) (HR.out.below HB4.out (Nat.le_refl _))).mono ?_
    rintro e w5 ⟨v5, rfl, ho5, hb5⟩
    rw [HE1.out]
    have HB5 := Lib.hid (below_then HB4.out hb5)
    have HO5 := Lib.hid ho5.rd
    have HO25 := Lib.hid (HO24.out.below hb5 (Nat.le_refl _))
    have HO35 := Lib.hid (HO34.out.below hb5 (Nat.le_refl _))
    have HO45 := Lib.hid (HO4.out.below hb5 (Nat.le_refl _))
    clear hb5 ho5
    go_wp2_with fail
    refine (same_no v2 v3 _ _ w5 HO25.out HO35.out).mono ?_
    rintro e w6 ⟨rfl, hb6⟩
    rw [decide_eq_true rfl]
    have HB6 := Lib.hid (below_then HB5.out hb6)
    have HO26 := Lib.hid (HO25.out.below hb6 (Nat.le_refl _))
    have HO46 := Lib.hid (HO45.out.below hb6 (Nat.le_refl _))
    have HO56 := Lib.hid (HO5.out.below hb6 (Nat.le_refl _))
    clear hb6
    go_wp2_with fail
    refine (same_no v4 v5 _ _ w6 HO46.out HO56.out).mono ?_
    rintro e w7 ⟨rfl, hb7⟩
    rw [decide_eq_true rfl]
    have HB7 := Lib.hid (below_then HB6.out hb7)
    have HO27 := Lib.hid (HO26.out.below hb7 (Nat.le_refl _))
    have HO47 := Lib.hid (HO46.out.below hb7 (Nat.le_refl _))
    clear hb7
    go_wp2_with fail
    refine (May_any v2 _ w7 HO27.out).mono ?_
    rintro e w8 ⟨rfl, hb8⟩
    rw [addO_may]
    have HB8 := Lib.hid (below_then HB7.out hb8)
    have HO48 := Lib.hid (HO47.out.below hb8 (Nat.le_refl _))
    clear hb8
    go_wp2_with fail
    refine (May_any v4 _ w8 HO48.out).mono ?_
    rintro e w9 ⟨rfl, hb9⟩
    rw [setO_may]
    have HB9 := Lib.hid (below_then HB8.out hb9)
    clear hb9
    go_wp2_with fail
    go_ret
    exact ⟨rfl, HBB.out ▸ HB9.out⟩

end Go.Proofs.Ythmifcbhbcjeiaa

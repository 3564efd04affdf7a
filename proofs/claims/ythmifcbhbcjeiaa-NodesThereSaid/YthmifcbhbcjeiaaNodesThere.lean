/- NodesThere: the walk. -/
import Derived.Test.YthmifcbhbcjeiaaAwake12
import Derived.Test.YthmifcbhbcjeiaaNodesL
namespace Go.Proofs.Ythmifcbhbcjeiaa
open Go Go.RowKit

set_option maxHeartbeats 4000000 in
set_option maxRecDepth 100000 in
theorem nodesThere_walk (v : Value) (l : List Nq) (x : Nq) (other : Int) (W : World) (hR : Rd W 4 v l.length (l.flatMap noC)) :
    Calls Try.prog 9 #[v, .agg #[.int .i64 x.1, .int .i64 x.2.1, .int .i64 x.2.2.1, .int .i64 x.2.2.2], .int .i64 other] W fun e w' => e = .returned (.bool true) ∧ Below W.heap.size W w' := by
  obtain ⟨A, cap, hv, hcap, hnc⟩ := hR.shape
  obtain ⟨n, hn⟩ : ∃ n, l.length = n := ⟨_, rfl⟩
  have HR := Lib.hid hR
  have HN := Lib.hid hn
  rw [hn] at hv hnc
  subst hv
  obtain ⟨x0, x1, x2, x3⟩ := x
  simp only
  clear hR hn
  go_enter Try.func9, Try.ntmps9
  go_wp2_with fail
  have hal := below_one W (.cells #[.int .i64 x0, .int .i64 x1, .int .i64 x2, .int .i64 x3] 28)
  have hbx := Bx.new W 28 [.int .i64 x0, .int .i64 x1, .int .i64 x2, .int .i64 x3]
  change Bx (W.alloc (.cells #[.int .i64 x0, .int .i64 x1, .int .i64 x2, .int .i64 x3] 28)) _ _ _ at hbx
  generalize W.alloc (.cells #[.int .i64 x0, .int .i64 x1, .int .i64 x2, .int .i64 x3] 28) = w0 at *
  refine (awake12 _).mono ?_
  rintro e w1 ⟨rfl, hb1⟩
  have HB1 := Lib.hid (below_then hal hb1)
  have HX1 := Lib.hid (hbx.below' hb1)
  obtain ⟨B, hB⟩ : ∃ B, W.heap.size = B := ⟨_, rfl⟩
  rw [hB] at HX1 ⊢
  clear hb1 hal hbx
  obtain ⟨q0, q1, q2, q3⟩ := HX1.out.four
  have HBB := Lib.hid hB
  clear hB
  by_cases h1 : (50 : Int) < (n : Int)
  · go_wp2_with fail
    go_ret
    exact ⟨rfl, HBB.out ▸ HB1.out⟩
  · have HL := Lib.hid (show l.length ≤ 50 by have := HN.out; omega)
    go_wp2_with fail
    refine (add_any _ l (x0, x1, x2, x3) w1 (by have := HL.out; omega) (HR.out.below HB1.out (Nat.le_refl _))).mono ?_
    rintro e w2 ⟨v2, rfl, ho2, hb2⟩
    have HB2 := Lib.hid (below_then HB1.out hb2)
    obtain ⟨A2, cap2, hv2⟩ := ho2.slice_
    subst hv2
    have HO2 := Lib.hid ho2
    have HX2 := Lib.hid (HX1.out.below' hb2)
    clear hb2 ho2 q0 q1 q2 q3
    obtain ⟨q0, q1, q2, q3⟩ := HX2.out.four
    obtain ⟨e0, he0⟩ : ∃ e0, addE l (x0, x1, x2, x3) = e0 := ⟨_, rfl⟩
    rw [he0]
    have HE := Lib.hid he0
    have hml := add_len (l := l) (x := (x0, x1, x2, x3))
    have hml2 : (addO l (x0, x1, x2, x3)).length ≤ 101 := by have := HL.out; omega
    clear he0 hml
    by_cases hz : e0 = 0
    · subst hz
      obtain ⟨g1, g2, g3, g4, g5⟩ := addE_ok HE.out
      have f1 : findL (addO l (x0, x1, x2, x3)) x0 = some (x0, x1, x2, x3) := by rw [add_find HE.out, if_pos rfl]
      have f2 : other ≠ x0 → findL (addO l (x0, x1, x2, x3)) other = findL l other := fun h => by rw [add_find HE.out, if_neg h]
      obtain ⟨m, hm⟩ : ∃ m, addO l (x0, x1, x2, x3) = m := ⟨_, rfl⟩
      rw [hm] at HO2 hml2 f1 f2 ⊢
      have f3 : addE m (x0, x1, x2, x3) = 6 := by unfold addE; rw [if_neg (by simp [g1]; exact g2), if_pos (by rw [show findL m (x0, x1, x2, x3).1 = _ from f1]; rfl)]
      have F1 := Lib.hid f1
      have F2 := Lib.hid f2
      have F3 := Lib.hid f3
      clear f1 f2 f3 g1 g2 g3 g4 g5 hm
      go_wp2_with fail
      refine (find_any _ m x0 w2 (by omega) HO2.out.rd).mono ?_
      rintro e w3 ⟨rfl, hb3⟩
      rw [F1.out]
      simp only [optN, noV, Option.getD_some, Option.isSome_some]
      have hal := below_one w3 (.cells #[.int .i64 x0, .int .i64 x1, .int .i64 x2, .int .i64 x3] 28)
      have hY := Bx.new w3 28 [.int .i64 x0, .int .i64 x1, .int .i64 x2, .int .i64 x3]
      change Bx (w3.alloc (.cells #[.int .i64 x0, .int .i64 x1, .int .i64 x2, .int .i64 x3] 28)) _ _ _ at hY
      have HB4 := Lib.hid (below_then (below_then HB2.out hb3) hal)
      have HX4 := Lib.hid ((HX2.out.below' hb3).below' hal)
      have HR4 := Lib.hid ((HO2.out.rd.below hb3 (Nat.le_refl _)).below hal (Nat.le_refl _))
      have HY4 := Lib.hid hY
      clear hb3 hal hY q0 q1 q2 q3
      obtain ⟨q0, q1, q2, q3⟩ := HX4.out.four
      go_wp2_with fail
      generalize w3.alloc (.cells #[.int .i64 x0, .int .i64 x1, .int .i64 x2, .int .i64 x3] 28) = w4 at *
      obtain ⟨C, hC⟩ : ∃ C, w3.heap.size = C := ⟨_, rfl⟩
      rw [hC] at HY4 ⊢
      clear hC
      refine (add_any _ m (x0, x1, x2, x3) w4 (by omega) HR4.out).mono ?_
      rintro e w5 ⟨v5, rfl, ho5, hb5⟩
      rw [F3.out]
      have HB5 := Lib.hid (below_then HB4.out hb5)
      have HX5 := Lib.hid (HX4.out.below' hb5)
      have HY5 := Lib.hid (HY4.out.below' hb5)
      have HR5 := Lib.hid (HR4.out.below hb5 (Nat.le_refl _))
      clear hb5 ho5 q0 q1 q2 q3
      go_wp2_with fail
      refine (find_any _ l other w5 (by have := HL.out; omega) (HR.out.below HB5.out (Nat.le_refl _))).mono ?_
      rintro e w6 ⟨rfl, hb6⟩
      obtain ⟨o, ho⟩ : ∃ o, findL l other = o := ⟨_, rfl⟩
      obtain ⟨⟨y0, y1, y2, y3⟩, hy⟩ : ∃ y, optN o = y := ⟨_, rfl⟩
      rw [ho, hy]
      have HO := Lib.hid ho
      have HYY := Lib.hid hy
      clear ho hy
      simp only [noV]
      have hal := below_one w6 (.cells #[.int .i64 y0, .int .i64 y1, .int .i64 y2, .int .i64 y3] 28)
      have hZ := Bx.new w6 28 [.int .i64 y0, .int .i64 y1, .int .i64 y2, .int .i64 y3]
      change Bx (w6.alloc (.cells #[.int .i64 y0, .int .i64 y1, .int .i64 y2, .int .i64 y3] 28)) _ _ _ at hZ
      have HB7 := Lib.hid (below_then (below_then HB5.out hb6) hal)
      have HX7 := Lib.hid ((HX5.out.below' hb6).below' hal)
      have HY7 := Lib.hid ((HY5.out.below' hb6).below' hal)
      have HR7 := Lib.hid ((HR5.out.below hb6 (Nat.le_refl _)).below hal (Nat.le_refl _))
      have HZ7 := Lib.hid hZ
      clear hb6 hal hZ
      go_wp2_with fail
      generalize w6.alloc (.cells #[.int .i64 y0, .int .i64 y1, .int .i64 y2, .int .i64 y3] 28) = w7 at *
      obtain ⟨D, hD⟩ : ∃ D, w6.heap.size = D := ⟨_, rfl⟩
      rw [hD] at HZ7 ⊢
      clear hD
      refine (find_any _ m other w7 (by omega) HR7.out).mono ?_
      rintro e w8 ⟨rfl, hb8⟩
      obtain ⟨o', ho'⟩ : ∃ o', findL m other = o' := ⟨_, rfl⟩
      obtain ⟨⟨z0, z1, z2, z3⟩, hz'⟩ : ∃ y, optN o' = y := ⟨_, rfl⟩
      have hoo : other ≠ x0 → o' = o := fun h => by rw [← ho', F2.out h, HO.out]
      rw [ho', hz']
      have HZZ := Lib.hid hz'
      have HOO := Lib.hid hoo
      clear ho' hz' hoo
      simp only [noV]
      have HB8 := Lib.hid (below_then HB7.out hb8)
      obtain ⟨q0, q1, q2, q3⟩ := (HX7.out.below' hb8).four
      obtain ⟨r0, r1, r2, r3⟩ := (HY7.out.below' hb8).four
      obtain ⟨s0, s1, s2, s3⟩ := (HZ7.out.below' hb8).four
      have hBl := (HX7.out.below' hb8).lt
      have hCl := (HY7.out.below' hb8).lt
      have hDl := (HZ7.out.below' hb8).lt
      clear hb8
      by_cases hox : other = x0
      · subst hox
        go_wp2_with fail
        go_ret
        exact ⟨rfl, HBB.out ▸ below_then HB8.out (below_one _ _)⟩
      · have hox' : (other == x0) = false := by simpa using hox
        have e1 := HOO.out hox
        subst e1
        have e2 := HYY.out
        rw [HZZ.out] at e2
        simp only [Prod.mk.injEq] at e2
        obtain ⟨rfl, rfl, rfl, rfl⟩ := e2
        go_wp2_with fail
        go_ret
        exact ⟨rfl, HBB.out ▸ below_then HB8.out (below_one _ _)⟩
    · have hz' : (e0 != 0) = true := by simpa using hz
      have hp0 : addO l (x0, x1, x2, x3) = [] := by unfold addO; rw [if_neg (by rw [HE.out]; exact hz)]
      rw [hp0] at HO2 ⊢
      simp only [List.length_nil] at HO2 ⊢
      clear hml2 hp0
      go_wp2_with fail
      go_ret
      exact ⟨rfl, HBB.out ▸ HB2.out⟩

end Go.Proofs.Ythmifcbhbcjeiaa

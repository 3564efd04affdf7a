/- suturelaw19.awake (the chapter's example holds), few. -/
import Derived.Test.YtflndnbjdhbppaaTrimA
import Derived.Test.YtflndnbjdhbppaaTrimV
namespace Go.Proofs.Ytflndnbjdhbppaa
open Go Go.RowKit

theorem rd_row19 {w : World} {b size n : Nat} {cs : List Value} {t : TypeId} (hb : Bx w b t cs) (hs : cs.length = n * size) (hn : n ≤ 1000) : Rd w size (.slice (some ⟨b, 0, none⟩) n n) n cs :=
  ⟨hs, _, _, rfl, Nat.le_refl _, by unfold maxLen; omega, fun _ => ⟨b, 0, rfl, hb.lt, fun j u hj => by
    rw [Nat.zero_add, hb.cell]
    exact hj⟩⟩
theorem Bx.at_ (w : World) (t : TypeId) (cs : List Value) {n : Nat} (hn : n = w.heap.size) : Bx (w.alloc (.cells cs.toArray t)) n t cs := by rw [hn]; exact Bx.new w t cs

def wake19 : List Nq := [(1, 1, 4, 0), (2, 1, 4, 0), (3, 2, 4, 0)]
theorem wake19_a : excT [1, 2, 3] wake19 [1, 2, 3] [] 2 = some 2 := by decide
theorem wake19_b : goneT [1, 2, 3] wake19 [1, 2, 3] [] 2 = [2] := by decide
theorem wake19_c : wholeT [1, 3] wake19 [1, 2, 3] 2 = true := by decide

set_option maxHeartbeats 2000000 in
theorem awake19 (w : World) : Calls Try.prog 23 #[] w fun e w' => e = .returned (.bool true) ∧ Below w.heap.size w w' := by
  go_enter Try.func23, Try.ntmps23
  go_wp2_with fail
  obtain ⟨W, hW⟩ : ∃ W, W = (((w.alloc (.cells (wake19.flatMap noC).toArray 58)).alloc (.cells (([1, 2, 3] : List Int).flatMap inC).toArray 3)).alloc (.cells #[.int .i64 1, .int .i64 1, .int .u32 0, .slice (some ⟨w.heap.size + 1, 0, none⟩) 3 3] 39)).alloc (.cells (([1, 2, 3] : List Int).flatMap inC).toArray 3) := ⟨_, rfl⟩
  have hb0 : Below w.heap.size w W := by rw [hW]; exact (below3 w _ _ _).alloc (by simp; omega) _
  have hN0 : Bx W w.heap.size 58 (wake19.flatMap noC) := by rw [hW]; exact (((Bx.new w 58 (wake19.flatMap noC)).alloc _).alloc _).alloc _
  have hI0 : Bx W (w.heap.size + 1) 3 (([1, 2, 3] : List Int).flatMap inC) := by rw [hW]; exact ((Bx.at_ _ 3 _ (by simp)).alloc _).alloc _
  have hC0 : Bx W (w.heap.size + 1 + 1) 39 [.int .i64 1, .int .i64 1, .int .u32 0, .slice (some ⟨w.heap.size + 1, 0, none⟩) 3 3] := by rw [hW]; exact (Bx.at_ _ 39 _ (by simp)).alloc _
  have hA0 : Bx W (w.heap.size + 1 + 1 + 1) 3 (([1, 2, 3] : List Int).flatMap inC) := by rw [hW]; exact Bx.at_ _ 3 _ (by simp)
  have hN := rd_row19 (size := 4) (n := 3) hN0 rfl (by omega)
  have hI := rd_row19 (size := 1) (n := 3) hI0 rfl (by omega)
  have hA := rd_row19 (size := 1) (n := 3) hA0 rfl (by omega)
  change Calls _ _ _ ((((w.alloc (.cells (wake19.flatMap noC).toArray 58)).alloc (.cells (([1, 2, 3] : List Int).flatMap inC).toArray 3)).alloc (.cells #[.int .i64 1, .int .i64 1, .int .u32 0, .slice (some ⟨w.heap.size + 1, 0, none⟩) 3 3] 39)).alloc (.cells (([1, 2, 3] : List Int).flatMap inC).toArray 3)) _
  rw [← hW]
  have HB0 := Lib.hid hb0
  have HN := Lib.hid hN
  have HI := Lib.hid hI
  have HA := Lib.hid hA
  have HC := Lib.hid hC0
  clear hb0 hN0 hI0 hC0 hA0 hN hI hA hW
  refine (excess_any 1 1 0 _ [1, 2, 3] _ wake19 _ [1, 2, 3] _ [] 2 W (by decide) (by decide) (by decide) HI.out HN.out HA.out (Rd.nil_ _ _)).mono ?_
  rintro e w1 ⟨rfl, hb1⟩
  rw [wake19_a]
  have HB1 := Lib.hid (below_then HB0.out hb1)
  have HN1 := Lib.hid (HN.out.below hb1 (Nat.le_refl _))
  have HI1 := Lib.hid (HI.out.below hb1 (Nat.le_refl _))
  have HA1 := Lib.hid (HA.out.below hb1 (Nat.le_refl _))
  obtain ⟨q0, q1, q2, q3⟩ := (HC.out.below' hb1).four
  simp only [optI, Option.getD_some, Option.isSome_some]
  clear hb1 HC HB0 HN HI HA
  go_wp2_with fail
  refine (all_any 1 1 0 _ [1, 2, 3] _ wake19 _ [1, 2, 3] _ [] 2 w1 (by decide) (by decide) (by decide) HI1.out HN1.out HA1.out (Rd.nil_ _ _)).mono ?_
  rintro e w2 ⟨v2, rfl, ho2, hb2⟩
  rw [wake19_b] at ho2
  obtain ⟨A2, cap2, e2⟩ := ho2.slice_
  subst e2
  have HB2 := Lib.hid (below_then HB1.out hb2)
  have HN2 := Lib.hid (HN1.out.below hb2 (Nat.le_refl _))
  have HA2 := Lib.hid (HA1.out.below hb2 (Nat.le_refl _))
  clear hb2 ho2 q0 q1 q2 q3 HB1 HN1 HI1 HA1
  simp only [List.length_singleton]
  go_wp2_with fail
  have hb3 := below_one w2 (.cells (([1, 3] : List Int).flatMap inC).toArray 3)
  have hx3 := Bx.new w2 3 (([1, 3] : List Int).flatMap inC)
  refine (whole_any 1 1 0 _ [1, 3] _ wake19 _ [1, 2, 3] 2 (w2.alloc (.cells (([1, 3] : List Int).flatMap inC).toArray 3)) (by decide) (by decide) (rd_row19 (n := 2) hx3 rfl (by omega)) (HN2.out.below hb3 (Nat.le_refl _)) (HA2.out.below hb3 (Nat.le_refl _))).mono ?_
  rintro e w4 ⟨rfl, hb4⟩
  rw [wake19_c]
  have HB4 := Lib.hid (below_then (below_then HB2.out hb3) hb4)
  clear hb3 hx3 hb4
  go_wp2_with fail
  go_ret
  exact ⟨rfl, HB4.out⟩

def Few19 (n1 n2 n3 n4 : Nat) (w : World) (e : Ending) (w' : World) : Prop := ∃ b, e = .returned (.bool b) ∧ (b = true → n1 ≤ 40 ∧ n2 ≤ 40 ∧ n3 ≤ 40 ∧ n4 ≤ 40) ∧ Below w.heap.size w w'

set_option maxHeartbeats 1000000 in
theorem few19 (c0 c1 c2 : Int) (vh v va vd : Value) (ho : List Int) (l : List Nq) (al : List Int) (ld : List Ld) (w : World) (hH : Rd w 1 vh ho.length (ho.flatMap inC)) (hR : Rd w 4 v l.length (l.flatMap noC)) (hA : Rd w 1 va al.length (al.flatMap inC)) (hD : Rd w 2 vd ld.length (ld.flatMap ldC)) :
    Calls Try.prog 24 #[.agg #[.int .i64 c0, .int .i64 c1, .int .u32 c2, vh], v, va, vd] w (Few19 ho.length l.length al.length ld.length w) := by
  obtain ⟨A, cap, hv, _, _⟩ := hR.shape
  obtain ⟨Aa, capa, hva, _, _⟩ := hA.shape
  obtain ⟨Ad, capd, hvd, _, _⟩ := hD.shape
  obtain ⟨Ah, caph, hvh, _, _⟩ := hH.shape
  subst hv hva hvd hvh
  clear hR hA hD hH
  generalize ho.length = n1
  generalize l.length = n2
  generalize al.length = n3
  generalize ld.length = n4
  by_cases h1 : n1 ≤ 40
  · have h1' : (n1 : Int) ≤ 40 := by omega
    by_cases h2 : n2 ≤ 40
    · have h2' : (n2 : Int) ≤ 40 := by omega
      by_cases h3 : n3 ≤ 40
      · have h3' : (n3 : Int) ≤ 40 := by omega
        by_cases h4 : n4 ≤ 40
        · have h4' : (n4 : Int) ≤ 40 := by omega
          go_enter Try.func24, Try.ntmps24
          go_wp2
          go_ret
          exact ⟨_, rfl, fun _ => ⟨h1, h2, h3, h4⟩, below_one _ _⟩
        · have h4' : ¬ (n4 : Int) ≤ 40 := by omega
          go_enter Try.func24, Try.ntmps24
          go_wp2
          go_ret
          exact ⟨_, rfl, (fun h => by first | (cases h; done) | exact absurd h (by simp; omega)), below_one _ _⟩
      · have h3' : ¬ (n3 : Int) ≤ 40 := by omega
        go_enter Try.func24, Try.ntmps24
        go_wp2
        go_ret
        exact ⟨_, rfl, (fun h => by first | (cases h; done) | exact absurd h (by simp; omega)), below_one _ _⟩
    · have h2' : ¬ (n2 : Int) ≤ 40 := by omega
      go_enter Try.func24, Try.ntmps24
      go_wp2
      go_ret
      exact ⟨_, rfl, (fun h => by first | (cases h; done) | exact absurd h (by simp; omega)), below_one _ _⟩
  · have h1' : ¬ (n1 : Int) ≤ 40 := by omega
    go_enter Try.func24, Try.ntmps24
    go_wp2
    go_ret
    exact ⟨_, rfl, (fun h => by first | (cases h; done) | exact absurd h (by simp; omega)), below_one _ _⟩

end Go.Proofs.Ytflndnbjdhbppaa

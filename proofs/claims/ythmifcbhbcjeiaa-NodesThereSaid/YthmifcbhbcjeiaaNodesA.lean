/- nodes.Add: its contract. -/
import Derived.Test.YthmifcbhbcjeiaaNodesF
import Derived.Test.YthmifcbhbcjeiaaInsertNo
import Derived.Test.YthmifcbhbcjeiaaSessM
namespace Go.Proofs.Ythmifcbhbcjeiaa
open Go Go.RowKit

def putN (l : List Nq) (x : Nq) : List Nq := (l.filter fun y => decide (y.1 < x.1)) ++ x :: (l.filter fun y => decide (x.1 < y.1))
def addE (l : List Nq) (x : Nq) : Int := if mayN x = false ∨ x.2.2.2 ≠ 0 then 1 else if (findL l x.1).isSome then 6 else 0
def addO (l : List Nq) (x : Nq) : List Nq := if addE l x = 0 then putN (fairL l) x else []
def AddE (l : List Nq) (x : Nq) (w : World) (e : Ending) (w' : World) : Prop :=
  ∃ v', e = .returned (.tuple #[v', .int .i64 (addE l x)]) ∧ Own w' w.heap.size 28 4 v' (addO l x).length ((addO l x).flatMap noC) ∧ Below w.heap.size w w'
theorem putN_cut {l : List Nq} (h : Ris noI l) {i : Nat} {x : Nq} (c : Cut noI l x.1 i) (hn : isAt noI l x.1 i = false) : putN l x = l.take i ++ x :: l.drop i := by
  have e1 : l.filter (fun y => decide (y.1 < x.1)) = l.take i := Ris.take_filter c
  have e2 : l.filter (fun y => decide (x.1 < y.1)) = if isAt noI l x.1 i then l.drop (i + 1) else l.drop i := h.drop_filter c
  unfold putN
  rw [e1, e2, hn]
  rfl

set_option maxHeartbeats 4000000 in
theorem add_any (v : Value) (l : List Nq) (x : Nq) (w : World) (hl : l.length ≤ 500) (hR : Rd w 4 v l.length (l.flatMap noC)) :
    Calls Try.prog 32 #[v, .agg #[.int .i64 x.1, .int .i64 x.2.1, .int .i64 x.2.2.1, .int .i64 x.2.2.2]] w (AddE l x w) := by
  obtain ⟨x0, x1, x2, x3⟩ := x
  simp only
  have HR := Lib.hid hR
  clear hR
  have hfl := fairL_len l
  go_enter Try.func32, Try.ntmps32
  go_wp2_with fail
  have hal := below_one w (.cells #[.int .i64 x0, .int .i64 x1, .int .i64 x2, .int .i64 x3] 28)
  have hbx := Bx.new w 28 [.int .i64 x0, .int .i64 x1, .int .i64 x2, .int .i64 x3]
  change Bx (w.alloc (.cells #[.int .i64 x0, .int .i64 x1, .int .i64 x2, .int .i64 x3] 28)) _ _ _ at hbx
  have hBw : w.heap.size < (w.alloc (.cells #[.int .i64 x0, .int .i64 x1, .int .i64 x2, .int .i64 x3] 28)).heap.size := by simp
  generalize w.alloc (.cells #[.int .i64 x0, .int .i64 x1, .int .i64 x2, .int .i64 x3] 28) = w0 at *
  refine (fair_any v l _ (by omega) (HR.out.below hal (Nat.le_refl _))).mono ?_
  rintro e w1 ⟨v1, rfl, hown1, hb1⟩
  obtain ⟨A1, cap1, hv1⟩ := hown1.slice_
  subst hv1
  obtain ⟨m, hm⟩ : ∃ m, (fairL l).length = m := ⟨_, rfl⟩
  have HM := Lib.hid hm
  have HO1 := Lib.hid hown1
  have HB1 := Lib.hid (below_then hal hb1)
  have HX1 := Lib.hid (hbx.below' hb1)
  have hs0 : w.heap.size ≤ w0.heap.size := by omega
  have hs1 := hb1.size
  obtain ⟨q0, q1, q2, q3⟩ := HX1.out.four
  rw [hm] at hfl ⊢
  clear hown1 hb1 hm hal hbx
  go_wp2_with fail
  refine (by have := place_any A1 cap1 (fairL l) x0 w1 (by rw [HM.out]; omega) HO1.out.rd (fairL_ris l); rw [HM.out] at this; exact this : Calls Try.prog 42 #[.slice A1 m cap1, .int .i64 x0] w1 (SearchE (fairL l) x0 w1)).mono ?_
  rintro e w2 ⟨i, hc, rfl, hb2⟩
  have hat0 := hc.isAt_iff (fairL_ris l)
  have HAT := Lib.hid (show isAt noI (fairL l) x0 i = (findL l x0).isSome from hat0)
  have HC := Lib.hid hc
  have HB2 := Lib.hid (below_then HB1.out hb2)
  have HO2 := Lib.hid (HO1.out.below hb2 (Nat.le_refl _))
  have HX2 := Lib.hid (HX1.out.below' hb2)
  have hs2 := hb2.size
  have hle := hc.le
  rw [HM.out] at hle
  clear hc hb2 hat0 q0 q1 q2 q3
  obtain ⟨q0, q1, q2, q3⟩ := HX2.out.four
  obtain ⟨bf, hbf⟩ : ∃ bf, isAt noI (fairL l) x0 i = bf := ⟨_, rfl⟩
  rw [hbf]
  have HBF := Lib.hid hbf
  clear hbf
  go_wp2_with fail
  refine (may_any x0 x1 x2 x3 w2).mono ?_
  rintro e w3 ⟨rfl, hb3⟩
  have HB3 := Lib.hid (below_then HB2.out hb3)
  have HO3 := Lib.hid (HO2.out.below hb3 (Nat.le_refl _))
  have HX3 := Lib.hid (HX2.out.below' hb3)
  have hs3 : w0.heap.size ≤ w3.heap.size := by have := hb3.size; omega
  clear hb3 q0 q1 q2 q3
  obtain ⟨q0, q1, q2, q3⟩ := HX3.out.four
  obtain ⟨mb, hmb⟩ : ∃ mb, mayN (x0, x1, x2, x3) = mb := ⟨_, rfl⟩
  rw [hmb]
  have HMB := Lib.hid hmb
  clear hmb
  cases mb with
  | false =>
    have e1 : addE l (x0, x1, x2, x3) = 1 := by unfold addE; rw [if_pos (.inl HMB.out)]
    have E1 := Lib.hid e1
    clear e1
    go_wp2_with fail
    go_ret2
    refine ⟨_, by rw [E1.out]; rfl, ?_, HB3.out⟩
    rw [show addO l (x0, x1, x2, x3) = [] by unfold addO; rw [E1.out]; rfl]
    exact Own.nil_ _ _ _ _
  | true =>
    by_cases hst : x3 = 0
    · subst hst
      cases bf with
      | true =>
        have e1 : addE l (x0, x1, x2, 0) = 6 := by unfold addE; rw [if_neg (by simp [HMB.out]), if_pos (by rw [← HAT.out]; exact HBF.out)]
        have E1 := Lib.hid e1
        clear e1
        go_wp2_with fail
        go_ret2
        refine ⟨_, by rw [E1.out]; rfl, ?_, HB3.out⟩
        rw [show addO l (x0, x1, x2, 0) = [] by unfold addO; rw [E1.out]; rfl]
        exact Own.nil_ _ _ _ _
      | false =>
        have e1 : addE l (x0, x1, x2, 0) = 0 := by unfold addE; rw [if_neg (by simp [HMB.out]), if_neg (by show ¬ (findL l x0).isSome = true; rw [← HAT.out, HBF.out]; simp)]
        have hpn := putN_cut (x := (x0, x1, x2, 0)) (fairL_ris l) HC.out HBF.out
        have HPO : Hid (addO l (x0, x1, x2, 0) = (fairL l).take i ++ (x0, x1, x2, 0) :: (fairL l).drop i) := by show addO l (x0, x1, x2, 0) = _; unfold addO; rw [if_pos e1, hpn]
        have E1 := Lib.hid e1
        clear e1 hpn
        go_wp2_with fail
        have hal := below_one w3 (.cells (noC (x0, x1, x2, 0)).toArray 28)
        have hbx := Bx.new w3 28 (noC (x0, x1, x2, 0))
        have hO3 := HO3.out.alloc (.cells (noC (x0, x1, x2, 0)).toArray 28)
        refine (by have := insert_no w0.heap.size (.slice A1 (fairL l).length cap1) (fairL l) (x0, x1, x2, 0) i w3.heap.size (w3.alloc (.cells (noC (x0, x1, x2, 0)).toArray 28)) (by rw [HM.out]; omega) (by rw [HM.out]; omega) hO3 hbx (by simp; omega) (fun g hg e => by have := (HO3.out.blk_lt hg).2; omega); rw [HM.out] at this; exact this : Calls Try.prog 54 #[.slice A1 m cap1, .int .i64 i, .slice (some ⟨w3.heap.size, 0, none⟩) 1 1] _ _).mono ?_
        rintro e w4 ⟨v4, rfl, ho4, hf4, hk4⟩
        have HO4 := Lib.hid ho4
        have HB4 := Lib.hid ((below_then HB3.out hal).trans (hf4.below (B := w.heap.size) (by simp; omega) (fun k hk => by have := (HO3.out.blk_lt (by rw [HM.out]; exact hk)).1; omega)))
        clear ho4 hf4 hk4 hal hbx hO3
        go_wp2_with fail
        go_ret2
        refine ⟨_, by rw [E1.out]; rfl, ?_, HB4.out⟩
        rw [HPO.out]
        exact HO4.out.mono hs0
    · have hst' : (x3 != 0) = true := by simpa using hst
      have e1 : addE l (x0, x1, x2, x3) = 1 := by unfold addE; rw [if_pos (.inr hst)]
      have E1 := Lib.hid e1
      clear e1
      go_wp2_with fail
      go_ret2
      refine ⟨_, by rw [E1.out]; rfl, ?_, HB3.out⟩
      rw [show addO l (x0, x1, x2, x3) = [] by unfold addO; rw [E1.out]; rfl]
      exact Own.nil_ _ _ _ _

end Go.Proofs.Ythmifcbhbcjeiaa

/- PlaceTargets: the walk. -/
import Derived.Test.YthmifcbhbcjeiaaRef16C
import Derived.Test.YthmifcbhbcjeiaaManyL
import Derived.Test.YthmifcbhbcjeiaaInts
namespace Go.Proofs.Ythmifcbhbcjeiaa
open Go Go.RowKit Go.Sort

set_option maxHeartbeats 2000000 in
set_option maxRecDepth 100000 in
theorem placeTargets_walk (v : Value) (l : List Nq) (va : Value) (al : List Int) (vd : Value) (ld : List Ld) (vh : Value) (ho : List Int) (n z : Int) (W : World) (hwf : okW l) (hR : Rd W 4 v l.length (l.flatMap noC)) (hA : Rd W 1 va al.length (al.flatMap inC)) (hD : Rd W 2 vd ld.length (ld.flatMap ldC)) (hH : Rd W 1 vh ho.length (ho.flatMap inC)) :
    Calls Try.prog 11 #[v, va, vd, vh, .int .i64 n, .int .i64 z] W fun e w' => e = .returned (.bool true) ∧ Below W.heap.size W w' := by
  have HR := Lib.hid hR
  have HA := Lib.hid hA
  have HD := Lib.hid hD
  have HH := Lib.hid hH
  have HW := Lib.hid hwf
  clear hR hA hD hH hwf
  go_enter Try.func11, Try.ntmps11
  go_wp2_with fail
  refine (awake16 W).mono ?_
  rintro e w1 ⟨rfl, hb1⟩
  have HB1 := Lib.hid hb1
  clear hb1
  go_wp2_with fail
  refine (few16 _ _ _ _ l al ld ho w1 (HR.out.below HB1.out (Nat.le_refl _)) (HA.out.below HB1.out (Nat.le_refl _)) (HD.out.below HB1.out (Nat.le_refl _)) (HH.out.below HB1.out (Nat.le_refl _))).mono ?_
  rintro e w2 ⟨b, rfl, hf, rfl⟩
  cases b with
  | false =>
    clear hf
    go_wp2_with fail
    go_ret
    exact ⟨rfl, HB1.out⟩
  | true =>
    obtain ⟨⟨h1, h2, h3, h4⟩, h5⟩ := hf rfl
    clear hf
    have HP : Hid (posD ld) := fun y hy => (h5 y hy).1
    clear h5
    go_wp2_with fail
    refine (target_any _ _ _ _ l al ld ho w1 (by omega) (by omega) HW.out HP.out (HR.out.below HB1.out (Nat.le_refl _)) (HA.out.below HB1.out (Nat.le_refl _)) (HD.out.below HB1.out (Nat.le_refl _)) (HH.out.below HB1.out (Nat.le_refl _))).mono ?_
    rintro e w3 ⟨rfl, hb3⟩
    have HB3 := Lib.hid (below_then HB1.out hb3)
    clear hb3
    obtain ⟨t, ht⟩ : ∃ t, idO (tgtL l al ld ho) = t := ⟨_, rfl⟩
    obtain ⟨is, his⟩ : ∃ b, (tgtL l al ld ho).isSome = b := ⟨_, rfl⟩
    rw [ht, his]
    have HT := Lib.hid ht
    have HIS := Lib.hid his
    clear ht his
    go_wp2_with fail
    refine (rtarget_any _ _ _ _ l al ld ho w3 (by omega) (HR.out.below HB3.out (Nat.le_refl _)) (HA.out.below HB3.out (Nat.le_refl _)) (HD.out.below HB3.out (Nat.le_refl _)) (HH.out.below HB3.out (Nat.le_refl _))).mono ?_
    rintro e w4 ⟨he, hb4⟩
    rw [HT.out, HIS.out] at he
    subst he
    have HB4 := Lib.hid (below_then HB3.out hb4)
    clear hb4
    go_wp2_with fail
    refine (many_any _ _ _ _ l al ld ho n w4 (by omega) (by omega) (by omega) HW.out HP.out (HR.out.below HB4.out (Nat.le_refl _)) (HA.out.below HB4.out (Nat.le_refl _)) (HD.out.below HB4.out (Nat.le_refl _)) (HH.out.below HB4.out (Nat.le_refl _))).mono ?_
    rintro e w5 ⟨v5, rfl, ho5, hb5⟩
    have HB5 := Lib.hid (below_then HB4.out hb5)
    have HO5 := Lib.hid ho5.rd
    clear ho5 hb5
    go_wp2_with fail
    refine (rmany_any _ _ _ _ l al ld ho n w5 (by omega) (by omega) (by omega) HW.out HP.out (HR.out.below HB5.out (Nat.le_refl _)) (HA.out.below HB5.out (Nat.le_refl _)) (HD.out.below HB5.out (Nat.le_refl _)) (HH.out.below HB5.out (Nat.le_refl _))).mono ?_
    rintro e w6 ⟨v6, rfl, ho6, hb6⟩
    have HB6 := Lib.hid (below_then HB5.out hb6)
    have HO6 := Lib.hid ho6.rd
    have HO5' := Lib.hid (HO5.out.below hb6 (Nat.le_refl _))
    clear ho6 hb6 HO5
    go_wp2_with fail
    refine (ints_any _ _ (manyF l al n.toNat ld ho) (manyF l al n.toNat ld ho) w6 HO5'.out HO6.out).mono ?_
    rintro e w7 ⟨he, hb7⟩
    have he' : e = .returned (.bool true) := by rw [he, decide_eq_true rfl]
    subst he'
    have HB7 := Lib.hid (below_then HB6.out hb7)
    clear hb7 he
    have hbb : (is == is) = true := by cases is <;> rfl
    go_wp2_with fail
    refine (load_any vd ld z w7 (HD.out.below HB7.out (Nat.le_refl _))).mono ?_
    rintro e w8 ⟨rfl, hb8⟩
    have HB8 := Lib.hid (below_then HB7.out hb8)
    clear hb8
    obtain ⟨nl, hnl⟩ : ∃ x, loadL ld z = x := ⟨_, rfl⟩
    rw [hnl]
    have HNL := Lib.hid hnl
    clear hnl
    go_wp2_with fail
    refine (rload_any vd ld z w8 (HD.out.below HB8.out (Nat.le_refl _))).mono ?_
    rintro e w9 ⟨he, rfl⟩
    rw [HNL.out] at he
    subst he
    go_wp2_with fail
    refine (mayp_any _ va vd vh l al ld ho z w8 (by omega) (HR.out.below HB8.out (Nat.le_refl _)) (HA.out.below HB8.out (Nat.le_refl _)) (HD.out.below HB8.out (Nat.le_refl _)) (HH.out.below HB8.out (Nat.le_refl _))).mono ?_
    rintro e w10 ⟨rfl, hb10⟩
    have HB10 := Lib.hid (below_then HB8.out hb10)
    clear hb10
    obtain ⟨bm, hbm⟩ : ∃ x, mayT l al ld ho z = x := ⟨_, rfl⟩
    rw [hbm]
    have HBM := Lib.hid hbm
    clear hbm
    go_wp2_with fail
    refine (rmay_any _ va vd vh l al ld ho z w10 (HR.out.below HB10.out (Nat.le_refl _)) (HA.out.below HB10.out (Nat.le_refl _)) (HD.out.below HB10.out (Nat.le_refl _)) (HH.out.below HB10.out (Nat.le_refl _))).mono ?_
    rintro e w11 ⟨he, hb11⟩
    rw [HBM.out] at he
    subst he
    have HB11 := Lib.hid (below_then HB10.out hb11)
    clear hb11
    have hbb2 : (bm == bm) = true := by cases bm <;> rfl
    go_wp2_with fail
    go_ret
    exact ⟨by first | rfl | trivial | simp, HB11.out⟩

end Go.Proofs.Ythmifcbhbcjeiaa

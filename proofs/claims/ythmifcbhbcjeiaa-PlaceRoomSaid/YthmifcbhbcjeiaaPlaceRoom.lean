/- PlaceRoom: the walk. -/
import Derived.Test.YthmifcbhbcjeiaaMany
import Derived.Test.YthmifcbhbcjeiaaManyL
namespace Go.Proofs.Ythmifcbhbcjeiaa
open Go Go.RowKit Go.Sort

set_option maxHeartbeats 2000000 in
set_option maxRecDepth 100000 in
theorem placeRoom_walk (v : Value) (l : List Nq) (va : Value) (al : List Int) (vd : Value) (ld : List Ld) (vh : Value) (ho : List Int) (n z : Int) (W : World) (hwf : okW l) (hR : Rd W 4 v l.length (l.flatMap noC)) (hA : Rd W 1 va al.length (al.flatMap inC)) (hD : Rd W 2 vd ld.length (ld.flatMap ldC)) (hH : Rd W 1 vh ho.length (ho.flatMap inC)) :
    Calls Try.prog 13 #[v, va, vd, vh, .int .i64 n, .int .i64 z] W fun e w' => e = .returned (.bool true) ∧ Below W.heap.size W w' := by
  have HR := Lib.hid hR
  have HA := Lib.hid hA
  have HD := Lib.hid hD
  have HH := Lib.hid hH
  have HW := Lib.hid hwf
  clear hR hA hD hH hwf
  go_enter Try.func13, Try.ntmps13
  go_wp2_with fail
  refine (awake16 W).mono ?_
  rintro e w1 ⟨rfl, hb1⟩
  have HB1 := Lib.hid hb1
  clear hb1
  go_wp2_with fail
  refine (few16 _ _ _ _ l al ld ho w1 (HR.out.below HB1.out (Nat.le_refl _)) (HA.out.below HB1.out (Nat.le_refl _)) (HD.out.below HB1.out (Nat.le_refl _)) (HH.out.below HB1.out (Nat.le_refl _))).mono ?_
  rintro e w2 ⟨b, rfl, hf, rfl⟩
  cases b with
  | false =>
    clear hf
    go_wp2_with fail
    go_ret
    exact ⟨rfl, HB1.out⟩
  | true =>
    obtain ⟨⟨h1, h2, h3, h4⟩, h5⟩ := hf rfl
    clear hf
    have HP : Hid (posD ld) := fun y hy => (h5 y hy).1
    clear h5
    go_wp2_with fail
    refine (mayp_any _ va vd vh l al ld ho z w1 (by omega) (HR.out.below HB1.out (Nat.le_refl _)) (HA.out.below HB1.out (Nat.le_refl _)) (HD.out.below HB1.out (Nat.le_refl _)) (HH.out.below HB1.out (Nat.le_refl _))).mono ?_
    rintro e w3 ⟨rfl, hb3⟩
    have HB3 := Lib.hid (below_then HB1.out hb3)
    clear hb3
    obtain ⟨bz, hbz⟩ : ∃ b, mayT l al ld ho z = b := ⟨_, rfl⟩
    rw [hbz]
    have HBZ := Lib.hid hbz
    clear hbz
    cases bz with
    | true =>
      go_wp2_with fail
      go_ret
      exact ⟨rfl, HB3.out⟩
    | false =>
      go_wp2_with fail
      refine (many_any _ _ _ _ l al ld ho n w3 (by omega) (by omega) (by omega) HW.out HP.out (HR.out.below HB3.out (Nat.le_refl _)) (HA.out.below HB3.out (Nat.le_refl _)) (HD.out.below HB3.out (Nat.le_refl _)) (HH.out.below HB3.out (Nat.le_refl _))).mono ?_
      rintro e w4 ⟨v4, rfl, ho4, hb4⟩
      have HB4 := Lib.hid (below_then HB3.out hb4)
      obtain ⟨m, hm⟩ : ∃ m, manyF l al n.toNat ld ho = m := ⟨_, rfl⟩
      have HNE : Hid (∀ j, j < m.length → at_ m j ≠ z) := by
        intro j hj e
        have := many_mem (l := l) (al := al) (ld := ld) (ho := ho) (f := n.toNat) (z := z) (by rw [hm, ← e]; exact at_mem hj)
        rw [HBZ.out] at this
        cases this
      have hk40 : m.length ≤ l.length := by rw [← hm]; exact many_few n.toNat ld ho
      rw [hm] at ho4
      obtain ⟨A4, cap4, e4⟩ := ho4.slice_
      subst e4
      have HO4 := Lib.hid ho4.rd
      clear ho4 hb4 hm
      obtain ⟨k4, hk4⟩ : ∃ k, m.length = k := ⟨_, rfl⟩
      rw [hk4] at HO4 HNE hk40 ⊢
      have HK := Lib.hid hk4
      clear hk4
      go_wp2_with fail
      go_loop [16] (fun s16 => ∃ k : Nat, k ≤ k4 ∧ s16 = .int .i64 k) (fun s16 => k4 - (intOf s16).toNat)
      case atStart => exact ⟨0, Nat.zero_le _, rfl⟩
      case round =>
        obtain ⟨k, hk, rfl⟩ := hrel
        by_cases hlt : k < k4
        · have hltI : (k : Int) < (k4 : Int) := by omega
          obtain ⟨b, off, hAd, hbl⟩ := HO4.out.addr (by omega)
          subst hAd
          have c0 := rd_int HO4.out k (by rw [HK.out]; exact hlt)
          have hne := HNE.out k hlt
          obtain ⟨x, hx⟩ : ∃ x, at_ m k = x := ⟨_, rfl⟩
          rw [hx] at c0 hne
          have hneB : (x == z) = false := by simpa using hne
          clear hx
          go_wp2_with fail
          go_round
          case rel => exact ⟨k + 1, by omega, by go_num⟩
          case measure => simp [intOf]; omega
        · obtain rfl : k = k4 := by omega
          go_wp2_with fail
          refine (target_any _ _ _ _ l al ld ho _ (by omega) (by omega) HW.out HP.out (HR.out.below HB4.out (Nat.le_refl _)) (HA.out.below HB4.out (Nat.le_refl _)) (HD.out.below HB4.out (Nat.le_refl _)) (HH.out.below HB4.out (Nat.le_refl _))).mono ?_
          rintro e w5 ⟨rfl, hb5⟩
          have HB5 := Lib.hid (below_then HB4.out hb5)
          clear hb5
          obtain ⟨o, hoo⟩ : ∃ o, tgtL l al ld ho = o := ⟨_, rfl⟩
          rw [hoo]
          cases o with
          | none =>
            clear hoo
            simp only [idO, Option.map_none, Option.getD_none, Option.isSome_none]
            go_wp2_with fail
            go_ret
            exact ⟨by first | rfl | trivial, HB5.out⟩
          | some a =>
            have hne : a.1 ≠ z := fun e => by
              have := (tgtL_ok hoo).2
              rw [e, HBZ.out] at this
              cases this
            obtain ⟨t, ht⟩ : ∃ t, a.1 = t := ⟨_, rfl⟩
            rw [ht] at hne
            rw [show idO (some a) = t from ht]
            simp only [Option.isSome_some]
            have hneB : (t != z) = true := by simpa using hne
            clear hoo ht
            go_wp2_with fail
            go_ret
            exact ⟨by first | rfl | trivial, HB5.out⟩

end Go.Proofs.Ythmifcbhbcjeiaa

/- PlaceFirst: the walk. -/
import Derived.Test.YthmifcbhbcjeiaaMany
import Derived.Test.YthmifcbhbcjeiaaManyL
namespace Go.Proofs.Ythmifcbhbcjeiaa
open Go Go.RowKit Go.Sort

set_option maxHeartbeats 2000000 in
set_option maxRecDepth 100000 in
theorem placeFirst_walk (v : Value) (l : List Nq) (va : Value) (al : List Int) (vd : Value) (ld : List Ld) (vh : Value) (ho : List Int) (n : Int) (W : World) (hwf : okW l) (hR : Rd W 4 v l.length (l.flatMap noC)) (hA : Rd W 1 va al.length (al.flatMap inC)) (hD : Rd W 2 vd ld.length (ld.flatMap ldC)) (hH : Rd W 1 vh ho.length (ho.flatMap inC)) :
    Calls Try.prog 14 #[v, va, vd, vh, .int .i64 n] W fun e w' => e = .returned (.bool true) ∧ Below W.heap.size W w' := by
  have HR := Lib.hid hR
  have HA := Lib.hid hA
  have HD := Lib.hid hD
  have HH := Lib.hid hH
  have HW := Lib.hid hwf
  clear hR hA hD hH hwf
  go_enter Try.func14, Try.ntmps14
  go_wp2_with fail
  refine (awake16 W).mono ?_
  rintro e w1 ⟨rfl, hb1⟩
  have HB1 := Lib.hid hb1
  clear hb1
  go_wp2_with fail
  refine (few16 _ _ _ _ l al ld ho w1 (HR.out.below HB1.out (Nat.le_refl _)) (HA.out.below HB1.out (Nat.le_refl _)) (HD.out.below HB1.out (Nat.le_refl _)) (HH.out.below HB1.out (Nat.le_refl _))).mono ?_
  rintro e w2 ⟨b, rfl, hf, rfl⟩
  cases b with
  | false =>
    clear hf
    go_wp2_with fail
    go_ret
    exact ⟨rfl, HB1.out⟩
  | true =>
    obtain ⟨⟨h1, h2, h3, h4⟩, h5⟩ := hf rfl
    clear hf
    have HP : Hid (posD ld) := fun y hy => (h5 y hy).1
    clear h5
    by_cases hn1 : n < 1
    · go_wp2_with fail
      go_ret
      exact ⟨rfl, HB1.out⟩
    · by_cases hn2 : n > 40
      · go_wp2_with fail
        go_ret
        exact ⟨rfl, HB1.out⟩
      · go_wp2_with fail
        refine (target_any _ _ _ _ l al ld ho w1 (by omega) (by omega) HW.out HP.out (HR.out.below HB1.out (Nat.le_refl _)) (HA.out.below HB1.out (Nat.le_refl _)) (HD.out.below HB1.out (Nat.le_refl _)) (HH.out.below HB1.out (Nat.le_refl _))).mono ?_
        rintro e w3 ⟨rfl, hb3⟩
        have HB3 := Lib.hid (below_then HB1.out hb3)
        clear hb3
        obtain ⟨o, hoo⟩ : ∃ o, tgtL l al ld ho = o := ⟨_, rfl⟩
        rw [hoo]
        have HOO := Lib.hid hoo
        clear hoo
        obtain ⟨t, ht⟩ : ∃ t, idO o = t := ⟨_, rfl⟩
        obtain ⟨is, his⟩ : ∃ b, o.isSome = b := ⟨_, rfl⟩
        rw [ht, his]
        have HT := Lib.hid ht
        have HIS := Lib.hid his
        clear ht his
        go_wp2_with fail
        refine (many_any _ _ _ _ l al ld ho n w3 (by omega) (by omega) (by omega) HW.out HP.out (HR.out.below HB3.out (Nat.le_refl _)) (HA.out.below HB3.out (Nat.le_refl _)) (HD.out.below HB3.out (Nat.le_refl _)) (HH.out.below HB3.out (Nat.le_refl _))).mono ?_
        rintro e w4 ⟨v4, rfl, ho4, hb4⟩
        have HB4 := Lib.hid (below_then HB3.out hb4)
        have HO4 := Lib.hid ho4.rd
        clear ho4 hb4
        go_wp2_with fail
        refine (many_any _ _ _ _ l al ld ho (n + 1) w4 (by omega) (by omega) (by omega) HW.out HP.out (HR.out.below HB4.out (Nat.le_refl _)) (HA.out.below HB4.out (Nat.le_refl _)) (HD.out.below HB4.out (Nat.le_refl _)) (HH.out.below HB4.out (Nat.le_refl _))).mono ?_
        rintro e w5 ⟨v5, rfl, ho5, hb5⟩
        have HB5 := Lib.hid (below_then HB4.out hb5)
        have HO5 := Lib.hid ho5.rd
        have HO4' := Lib.hid (HO4.out.below hb5 (Nat.le_refl _))
        clear ho5 hb5 HO4
        have hnx := many_next (l := l) (al := al) n.toNat ld ho
        have hfi := many_first (l := l) (al := al) (ld := ld) (ho := ho) (n.toNat - 1)
        rw [show n.toNat - 1 + 1 = n.toNat by omega] at hfi
        have hfew : (manyF l al n.toNat ld ho).length ≤ l.length := many_few n.toNat ld ho
        rw [show n.toNat + 1 = (n + 1).toNat by omega] at hnx
        obtain ⟨m1, hm1⟩ : ∃ m, manyF l al n.toNat ld ho = m := ⟨_, rfl⟩
        obtain ⟨m2, hm2⟩ : ∃ m, manyF l al (n + 1).toNat ld ho = m := ⟨_, rfl⟩
        rw [hm1, hm2] at hnx
        rw [hm1] at hfi hfew HO4'
        rw [hm2] at HO5
        clear hm1 hm2
        obtain ⟨A4, c4, e4, _, _⟩ := HO4'.out.shape
        obtain ⟨A5, c5, e5, _, _⟩ := HO5.out.shape
        subst e4 e5
        obtain ⟨k1, hk1⟩ : ∃ k, m1.length = k := ⟨_, rfl⟩
        obtain ⟨k2, hk2⟩ : ∃ k, m2.length = k := ⟨_, rfl⟩
        obtain ⟨hx1, hx2, hx3⟩ := hnx
        have HX3 := Lib.hid hx3
        have HFI := Lib.hid hfi
        clear hx3 hfi
        rw [hk1] at HX3 HFI HO4' hx1 hx2 hfew ⊢
        rw [hk2] at HO5 hx1 hx2 ⊢
        have HK1 := Lib.hid hk1
        have HK2 := Lib.hid hk2
        clear hk1 hk2
        have q1 : ¬ (k2 : Int) < (k1 : Int) := by omega
        have q2 : ¬ (k2 : Int) > (k1 : Int) + 1 := by omega
        have q3 : (k1 : Int) ≤ 40 := by omega
        have HIN : Hid (is = decide (0 < k1)) := by
          rw [← HIS.out, ← HOO.out]
          have := HFI.out.1
          cases hto : tgtL l al ld ho with
          | none => rw [this.2 hto]; rfl
          | some a =>
            have h0 : k1 ≠ 0 := fun e => by rw [this.1 e] at hto; cases hto
            simp only [Option.isSome_some]
            exact (decide_eq_true (by omega)).symm
        by_cases hz : 0 < k1
        · have hzI : (k1 : Int) > 0 := by omega
          have his : is = true := by rw [HIN.out]; exact decide_eq_true hz
          subst his
          obtain ⟨b4, o4, e4, hbl4⟩ := HO4'.out.addr (by omega)
          obtain ⟨b5, o5, e5, hbl5⟩ := HO5.out.addr (by omega)
          subst e4 e5
          have c0 := rd_int HO4'.out 0 (by rw [HK1.out]; exact hz)
          have e0 : at_ m1 0 = t := by
            rw [← HT.out]
            cases o with
            | none => exact absurd HIS.out (by simp)
            | some a => exact HFI.out.2 a HOO.out
          rw [e0, Nat.add_zero] at c0
          clear e0
          go_wp2_with fail
          go_loopw [17] (fun s17 wr => ∃ k : Nat, k ≤ k1 ∧ s17 = .int .i64 k ∧ Below w5.heap.size w5 wr) (fun s17 _ => k1 - (intOf s17).toNat)
          case atStart => exact ⟨0, Nat.zero_le _, rfl, Below.refl _ _⟩
          case round =>
            clear c0
            obtain ⟨k, hk, rfl, hbel⟩ := hrel
            have HBL := Lib.hid hbel
            clear hbel
            by_cases hlt : k < k1
            · have hltI : (k : Int) < (k1 : Int) := by omega
              have hlt2 : k < k2 := by omega
              have hltI2 : (k : Int) < (k2 : Int) := by omega
              have c1 := rd_int (HO4'.out.below HBL.out (Nat.le_refl _)) k (by rw [HK1.out]; exact hlt)
              have c2 := rd_int (HO5.out.below HBL.out (Nat.le_refl _)) k (by rw [HK2.out]; exact hlt2)
              rw [← HX3.out k hlt] at c2
              obtain ⟨x, hx⟩ : ∃ x, at_ m1 k = x := ⟨_, rfl⟩
              rw [hx] at c1 c2
              clear hx
              go_wp2_with fail
              go_quiet (fail)
              go_wp2_with fail
              go_roundw
              case rel => exact ⟨k + 1, by omega, by go_num, below_drewN HBL.out _⟩
              case measure => simp [intOf]; omega
            · obtain rfl : k = k1 := by omega
              go_wp2_with fail
              go_ret
              exact ⟨rfl, below_then HB5.out HBL.out⟩
        · have hzI : ¬ (k1 : Int) > 0 := by omega
          have his : is = false := by rw [HIN.out]; exact decide_eq_false hz
          subst his
          obtain rfl : k1 = 0 := by omega
          go_wp2_with fail
          go_loopw [17] (fun s17 wr => s17 = .int .i64 0 ∧ wr = w5) (fun _ _ => 0)
          case atStart => exact ⟨rfl, rfl⟩
          case round =>
            obtain ⟨rfl, rfl⟩ := hrel
            go_wp2_with fail
            go_ret
            exact ⟨rfl, HB5.out⟩

end Go.Proofs.Ythmifcbhbcjeiaa

/- PlaceMany: the walk. -/
import Derived.Test.YthmifcbhbcjeiaaMany
import Derived.Test.YthmifcbhbcjeiaaManyL
namespace Go.Proofs.Ythmifcbhbcjeiaa
open Go Go.RowKit Go.Sort

set_option maxHeartbeats 2000000 in
set_option maxRecDepth 100000 in
theorem placeMany_walk (v : Value) (l : List Nq) (va : Value) (al : List Int) (vd : Value) (ld : List Ld) (vh : Value) (ho : List Int) (n z : Int) (W : World) (hwf : okW l) (hR : Rd W 4 v l.length (l.flatMap noC)) (hA : Rd W 1 va al.length (al.flatMap inC)) (hD : Rd W 2 vd ld.length (ld.flatMap ldC)) (hH : Rd W 1 vh ho.length (ho.flatMap inC)) :
    Calls Try.prog 12 #[v, va, vd, vh, .int .i64 n, .int .i64 z] W fun e w' => e = .returned (.bool true) ∧ Below W.heap.size W w' := by
  have HR := Lib.hid hR
  have HA := Lib.hid hA
  have HD := Lib.hid hD
  have HH := Lib.hid hH
  have HW := Lib.hid hwf
  clear hR hA hD hH hwf
  go_enter Try.func12, Try.ntmps12
  go_wp2_with fail
  refine (awake16 W).mono ?_
  rintro e w1 ⟨rfl, hb1⟩
  have HB1 := Lib.hid hb1
  clear hb1
  go_wp2_with fail
  refine (few16 _ _ _ _ l al ld ho w1 (HR.out.below HB1.out (Nat.le_refl _)) (HA.out.below HB1.out (Nat.le_refl _)) (HD.out.below HB1.out (Nat.le_refl _)) (HH.out.below HB1.out (Nat.le_refl _))).mono ?_
  rintro e w2 ⟨b, rfl, hf, rfl⟩
  cases b with
  | false =>
    clear hf
    go_wp2_with fail
    go_ret
    exact ⟨rfl, HB1.out⟩
  | true =>
    obtain ⟨⟨h1, h2, h3, h4⟩, h5⟩ := hf rfl
    clear hf
    have HP : Hid (posD ld) := fun y hy => (h5 y hy).1
    clear h5
    go_wp2_with fail
    refine (May_any _ l w1 (HR.out.below HB1.out (Nat.le_refl _))).mono ?_
    rintro e w3 ⟨rfl, hb3⟩
    have HB3 := Lib.hid (below_then HB1.out hb3)
    clear hb3
    obtain ⟨bm, hbm⟩ : ∃ b, mayL l = b := ⟨_, rfl⟩
    rw [hbm]
    clear hbm
    cases bm with
    | false =>
      go_wp2_with fail
      go_ret
      exact ⟨rfl, HB3.out⟩
    | true =>
      go_wp2_with fail
      refine (many_any _ _ _ _ l al ld ho n w3 (by omega) (by omega) (by omega) HW.out HP.out (HR.out.below HB3.out (Nat.le_refl _)) (HA.out.below HB3.out (Nat.le_refl _)) (HD.out.below HB3.out (Nat.le_refl _)) (HH.out.below HB3.out (Nat.le_refl _))).mono ?_
      rintro e w4 ⟨v4, rfl, ho4, hb4⟩
      have HB4 := Lib.hid (below_then HB3.out hb4)
      obtain ⟨m, hm⟩ : ∃ m, manyF l al n.toNat ld ho = m := ⟨_, rfl⟩
      have HAT : Hid (∀ j, j < m.length → mayT l al ld (ho ++ m.take j) (at_ m j) = true) := by rw [← hm]; exact many_at n.toNat ld ho
      have HEN : Hid (m.length < n.toNat → ∀ z, mayT l al ld (ho ++ m) z = false) := by rw [← hm]; exact many_end n.toNat ld ho
      have hlen : m.length ≤ n.toNat := by rw [← hm]; exact many_len n.toNat ld ho
      have hlen2 : m.length ≤ l.length := by rw [← hm]; exact many_few n.toNat ld ho
      rw [hm] at ho4
      obtain ⟨A4, cap4, e4⟩ := ho4.slice_
      subst e4
      have HO4 := Lib.hid ho4
      clear ho4 hb4 hm
      obtain ⟨k4, hk4⟩ : ∃ k, m.length = k := ⟨_, rfl⟩
      rw [hk4] at HO4 HAT HEN hlen hlen2 ⊢
      have HK := Lib.hid hk4
      clear hk4
      obtain ⟨Ah, caph, hvh, _, _⟩ := HH.out.shape
      subst hvh
      have hs4 := HB4.out.size
      go_wp2_with (at_builtin; refine wpList_app_in2 rfl (.const (.slice none 0 0)) (.tmp 43) rfl w4.heap.size (.slice none 0 0) [] rfl (Own.nil_ _ _ _ _) (.slice Ah ho.length caph) ho rfl (HH.out.below HB4.out (Nat.le_refl _)) (by simp; omega) (Nat.le_refl _) ?_; intro v5 w5 hown5 _ _ hb5; have HO5 := Lib.hid hown5; have HB5 := Lib.hid hb5; have hs5 := hb5.size; clear hown5 hb5)
      go_loopw [16, 17] (fun s16 s17 wr => ∃ k : Nat, k ≤ k4 ∧ s17 = .int .i64 k ∧ Own wr w4.heap.size 3 1 s16 (ho ++ m.take k).length ((ho ++ m.take k).flatMap inC) ∧ Below w4.heap.size w4 wr) (fun _ s17 _ => k4 - (intOf s17).toNat)
      case atStart => exact ⟨0, Nat.zero_le _, rfl, by rw [List.take_zero, List.append_nil]; exact HO5.out, HB5.out⟩
      case round =>
        obtain ⟨k, hk, rfl, hown, hbel⟩ := hrel
        have HOW := Lib.hid hown
        have HBL := Lib.hid hbel
        have HBW := Lib.hid (below_then HB4.out hbel)
        have hsr := hbel.size
        have hO4 := HO4.out.rd.below hbel (Nat.le_refl _)
        clear hown hbel
        by_cases hlt : k < k4
        · have hltI : (k : Int) < (k4 : Int) := by omega
          obtain ⟨b, off, hAd, hbl⟩ := hO4.addr (by omega)
          subst hAd
          have c0 := rd_int hO4 k (by rw [HK.out]; exact hlt)
          have hat := HAT.out k hlt
          have HTK : Hid (m.take (k + 1) = m.take k ++ [at_ m k]) := take_at (by rw [HK.out]; exact hlt)
          obtain ⟨x, hx⟩ : ∃ x, at_ m k = x := ⟨_, rfl⟩
          rw [hx] at c0 hat HTK
          have hlk : (ho ++ m.take k).length ≤ 200 := by rw [List.length_append, List.length_take]; omega
          have hown := HOW.out
          obtain ⟨hs, hhs⟩ : ∃ hs, ho ++ m.take k = hs := ⟨_, rfl⟩
          rw [hhs] at hat hlk hown
          have HHS := Lib.hid hhs
          have HNB := Lib.hid (mayT_not hat)
          have HAT2 := Lib.hid hat
          obtain ⟨A6, cap6, e6⟩ := hown.slice_
          subst e6
          have HOW1 := Lib.hid hown
          clear hx hO4 hat hhs hown HOW
          go_wp2_with fail
          refine (rhas_in _ hs x wr HOW1.out.rd).mono ?_
          rintro e w6 ⟨rfl, rfl⟩
          rw [HNB.out]
          go_wp2_with fail
          refine (mayp_any _ va vd _ l al ld hs x wr (by omega) (HR.out.below HBW.out (Nat.le_refl _)) (HA.out.below HBW.out (Nat.le_refl _)) (HD.out.below HBW.out (Nat.le_refl _)) HOW1.out.rd).mono ?_
          rintro e w6 ⟨rfl, hb6⟩
          rw [HAT2.out]
          have HB6 := Lib.hid hb6
          have hs6 := hb6.size
          have HOW6 := Lib.hid (HOW1.out.below hb6 (Nat.le_refl _))
          have c1 := (hb6.cell (p := ⟨b, off + k, none⟩) hbl).trans c0
          clear hb6 c0 HOW1
          go_wp2_with (at_builtin; refine wpList_app_in2 rfl (.tmp 70) (.tmp 75) rfl w4.heap.size (.slice A6 hs.length cap6) hs rfl (HOW6.out.alloc _) (.slice (some ⟨w6.heap.size, 0, none⟩) 1 1) [x] rfl (rd_one (t := 3) (heap_alloc_new _ _) rfl) (by simp only [List.length_singleton]; omega) (by simp; omega) ?_; intro v7 w7 hown7 _ _ hb7; have HO7 := Lib.hid hown7; have HB7 := Lib.hid hb7; clear hown7 hb7)
          go_roundw
          case rel =>
            refine ⟨k + 1, by omega, by go_num, ?_, ?_⟩
            · rw [HTK.out, ← List.append_assoc, HHS.out]; exact HO7.out
            · exact HBL.out.trans ((HB6.out.mono hsr).trans (((below_one w6 (.cells #[.int .i64 x] 3)).mono (by omega)).trans HB7.out))
          case measure => simp [intOf]; omega
        · obtain rfl : k = k4 := by omega
          clear hO4
          have hown := HOW.out
          rw [← HK.out, List.take_length] at hown
          have HOM := Lib.hid hown
          clear hown HOW
          by_cases hge : (k : Int) ≥ n
          · by_cases hle : (k : Int) ≤ n
            · go_wp2_with fail
              go_ret
              exact ⟨by first | rfl | trivial, HBW.out⟩
            · obtain rfl : k = 0 := by omega
              go_wp2_with fail
              go_ret
              exact ⟨by first | rfl | trivial, HBW.out⟩
          · have hle : (k : Int) ≤ n := by omega
            have HME := Lib.hid (HEN.out (by omega) z)
            go_wp2_with fail
            refine (mayp_any _ va vd _ l al ld (ho ++ m) z wr (by omega) (HR.out.below HBW.out (Nat.le_refl _)) (HA.out.below HBW.out (Nat.le_refl _)) (HD.out.below HBW.out (Nat.le_refl _)) HOM.out.rd).mono ?_
            rintro e w6 ⟨rfl, hb6⟩
            rw [HME.out]
            have HB6 := Lib.hid (below_then HBW.out hb6)
            clear hb6
            go_wp2_with fail
            go_ret
            exact ⟨by first | rfl | trivial, HB6.out⟩

end Go.Proofs.Ythmifcbhbcjeiaa

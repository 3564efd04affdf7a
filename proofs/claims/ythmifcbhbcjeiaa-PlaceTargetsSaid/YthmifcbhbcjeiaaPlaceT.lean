/- place.Target: its contract. -/
import Derived.Test.YthmifcbhbcjeiaaPlaceM
namespace Go.Proofs.Ythmifcbhbcjeiaa
open Go Go.RowKit Go.Maps Go.WideMaps Go.Sort

theorem least_some {l : List Nq} {al : List Int} {ld : List Ld} {ho : List Int} {x0 x1 x2 x3 : Int} (hp : posD ld) (hx : (x0, x1, x2, x3) ∈ l) (hm : mayT l al ld ho x0 = true) :
    Value.complex .f64 (wRe (oldB l ho x1)) (fl (minI (loadL ld x0) x2)) = .complex .f64 (leastC l ld ho (some (x0, x1, x2, x3))).1 (leastC l ld ho (some (x0, x1, x2, x3))).2 := by
  obtain ⟨_, _, _, _, h, _⟩ := mayT_spec hx hm
  have e : minI (loadL ld x0) x2 = loadL ld x0 := by unfold minI; rw [if_neg (by simp only at h; omega)]
  rw [e]
  rfl

set_option maxHeartbeats 2000000 in
set_option maxRecDepth 100000 in
theorem target_any (v va vd vh : Value) (l : List Nq) (al : List Int) (ld : List Ld) (ho : List Int) (w : World) (hl : l.length ≤ 1000) (hho : ho.length ≤ 1000) (hwf : okW l) (hp : posD ld)
    (hR : Rd w 4 v l.length (l.flatMap noC)) (hA : Rd w 1 va al.length (al.flatMap inC)) (hD : Rd w 2 vd ld.length (ld.flatMap ldC)) (hH : Rd w 1 vh ho.length (ho.flatMap inC)) :
    Calls Try.prog 28 #[v, va, vd, vh] w fun e w' => e = .returned (.tuple #[.int .i64 (idO (tgtL l al ld ho)), .bool (tgtL l al ld ho).isSome]) ∧ Below w.heap.size w w' := by
  obtain ⟨A, cap, hv, hcap, hnc⟩ := hR.shape
  obtain ⟨n, hn⟩ : ∃ n, l.length = n := ⟨_, rfl⟩
  have HR := Lib.hid hR
  have HA := Lib.hid hA
  have HD := Lib.hid hD
  have HH := Lib.hid hH
  have HN := Lib.hid hn
  have HP := Lib.hid hp
  have HW := Lib.hid hwf
  rw [hn] at hv hnc hl
  subst hv
  clear hR hA hD hH hn hp hwf
  go_enter Try.func28, Try.ntmps28
  go_wp2_with fail
  refine (racksP_any _ vh l ho w (by rw [HN.out]; exact hl) hho HR.out HH.out).mono ?_
  rintro e w1 ⟨mn, rfl, hO, hb1⟩
  have HO := Lib.hid hO
  have HB1 := Lib.hid hb1
  clear hO hb1
  generalize hmb : w.heap.size = mb at HO ⊢
  have HMB := Lib.hid hmb
  clear hmb
  go_wp2_with fail
  go_loopw [11, 12, 13, 22] (fun s11 s12 s13 s22 wr => ∃ (k : Nat) (acc : Option Nq), k ≤ n ∧ s22 = .int .i64 k ∧ Hid (tgtK l al ld ho k = acc) ∧ s11 = .int .i64 (idO acc) ∧ s12 = .complex .f64 (leastC l ld ho acc).1 (leastC l ld ho acc).2 ∧ s13 = .bool acc.isSome ∧ OldM wr mb mn (racksOf l ho) ∧ Below w.heap.size w wr) (fun _ _ _ s22 _ => n - (intOf s22).toNat)
  case atStart => exact ⟨0, none, Nat.zero_le _, rfl, rfl, rfl, rfl, rfl, HO.out, HB1.out⟩
  case round =>
    obtain ⟨k, acc, hk, rfl, HT, rfl, rfl, rfl, hO, hbel⟩ := hrel
    have HO := Lib.hid hO
    have HB := Lib.hid hbel
    clear hO hbel
    by_cases hlt : k < n
    · have hltI : (k : Int) < (n : Int) := by omega
      have hR1 := HR.out.below HB.out (Nat.le_refl _)
      rw [HN.out] at hR1
      obtain ⟨b, off, hAd, hbl⟩ := hR1.addr (by omega)
      subst hAd
      obtain ⟨c0, c1, c2, c3⟩ := rd_no hR1 k (by rw [HN.out]; exact hlt)
      obtain ⟨x, hx⟩ : ∃ x, at_ l k = x := ⟨_, rfl⟩
      have HX : Hid (x ∈ l) := by rw [← hx]; exact at_mem (by rw [HN.out]; exact hlt)
      have HST : Hid (tgtK l al ld ho (k + 1) = stepT l al ld ho acc x) := by
        have := tgtK_step (l := l) (al := al) (ld := ld) (ho := ho) (k := k) (by rw [HN.out]; exact hlt)
        rw [HT.out, hx] at this
        exact this
      rw [hx] at c0 c1 c2 c3
      clear hx hR1
      obtain ⟨x0, x1, x2, x3⟩ := x
      simp only at c0 c1 c2 c3
      go_wp2_with fail
      have hal := below_one wr (.cells #[.int .i64 x0, .int .i64 x1, .int .i64 x2, .int .i64 x3] 28)
      have hbx := Bx.new wr 28 [.int .i64 x0, .int .i64 x1, .int .i64 x2, .int .i64 x3]
      have HB2 := Lib.hid (below_then HB.out hal)
      refine (worth_any (x0, x1, x2, x3) vd ld mb mn (racksOf l ho) _ (HD.out.below HB2.out (Nat.le_refl _)) (HO.out.below hal) (HW.out _ HX.out) (fun h => hok_worth HP.out HX.out h)).mono ?_
      rintro e w3 ⟨he, hb3⟩
      obtain ⟨re, hre⟩ : ∃ re, wRe (oldB l ho x1) = re := ⟨_, rfl⟩
      obtain ⟨im, him⟩ : ∃ im, fl (minI (loadL ld x0) x2) = im := ⟨_, rfl⟩
      have he' : e = .returned (.complex .f64 re im) := by rw [he, ← hre, ← him]; rfl
      subst he'
      have HRE := Lib.hid hre
      have HIM := Lib.hid him
      clear hre him he
      have HB3 := Lib.hid (below_then HB2.out hb3)
      have HO3 := Lib.hid ((HO.out.below hal).below hb3)
      have HX3 := Lib.hid (hbx.below' hb3)
      have HLT := Lib.hid hbx.lt
      clear hb3 hal hbx c0 c1 c2 c3
      obtain ⟨q0, q1, q2, q3⟩ := HX3.out.four
      go_wp2_with fail
      refine (mayp_any _ va vd vh l al ld ho x0 w3 (by rw [HN.out]; exact hl) (by have := HR.out.below HB3.out (Nat.le_refl _); rw [HN.out] at this ⊢; exact this) (HA.out.below HB3.out (Nat.le_refl _)) (HD.out.below HB3.out (Nat.le_refl _)) (HH.out.below HB3.out (Nat.le_refl _))).mono ?_
      rintro e w4 ⟨rfl, hb4⟩
      have HB4 := Lib.hid (below_then HB3.out hb4)
      have HO4 := Lib.hid (HO3.out.below hb4)
      have HX4 := Lib.hid (HX3.out.below' hb4)
      clear hb4 q0 q1 q2 q3
      obtain ⟨q0, q1, q2, q3⟩ := HX4.out.four
      clear q1 q2 q3
      obtain ⟨bm, hbm⟩ : ∃ b, mayT l al ld ho x0 = b := ⟨_, rfl⟩
      rw [hbm]
      have HBM := Lib.hid hbm
      clear hbm
      have HS2 : Hid (stepT l al ld ho acc (x0, x1, x2, x3) = if bm && beats l ld ho (x0, x1, x2, x3) acc then some (x0, x1, x2, x3) else acc) := by
        unfold stepT
        rw [show mayT l al ld ho (x0, x1, x2, x3).1 = bm from HBM.out]
        exact rfl
      cases bm with
      | false =>
        go_wp2_with fail
        go_roundw
        case rel => exact ⟨k + 1, acc, by omega, by go_num, by rw [HST.out, HS2.out]; exact rfl, rfl, rfl, rfl, HO4.out, HB4.out⟩
        case measure => simp [intOf]; omega
      | true =>
        cases acc with
        | none =>
          go_wp2_with fail
          go_roundw
          case rel => exact ⟨k + 1, some (x0, x1, x2, x3), by omega, by go_num, by rw [HST.out, HS2.out]; exact rfl, rfl, by rw [← HRE.out, ← HIM.out]; exact least_some HP.out HX.out HBM.out, rfl, HO4.out, HB4.out⟩
          case measure => simp [intOf]; omega
        | some a =>
          simp only [leastC, Option.isSome_some]
          have hac := tgtK_ok HT.out
          have HBL : Hid (betB re im (wRe (oldB l ho a.2.1)) (fl (loadL ld a.1)) = lessT l ld ho (x0, x1, x2, x3) a) := by rw [← HRE.out, ← HIM.out]; exact betB_less HP.out HX.out hac.1 HBM.out hac.2
          clear hac
          obtain ⟨bl, hbl2⟩ : ∃ b, lessT l ld ho (x0, x1, x2, x3) a = b := ⟨_, rfl⟩
          rw [hbl2] at HBL
          have HBL2 := Lib.hid hbl2
          clear hbl2
          cases bl with
          | true =>
            go_wp2_with (go_at_call 50; refine (better_any _ _ _ _ _).mono ?_; rintro e w5 ⟨rfl, rfl⟩; rw [HBL.out])
            go_roundw
            case rel => exact ⟨k + 1, some (x0, x1, x2, x3), by omega, by go_num, by rw [HST.out, HS2.out]; simp only [beats, HBL2.out]; exact rfl, rfl, by rw [← HRE.out, ← HIM.out]; exact least_some HP.out HX.out HBM.out, rfl, HO4.out, HB4.out⟩
            case measure => simp [intOf]; omega
          | false =>
            go_wp2_with (go_at_call 50; refine (better_any _ _ _ _ _).mono ?_; rintro e w5 ⟨rfl, rfl⟩; rw [HBL.out])
            go_roundw
            case rel => exact ⟨k + 1, some a, by omega, by go_num, by rw [HST.out, HS2.out]; simp only [beats, HBL2.out]; exact rfl, rfl, rfl, rfl, HO4.out, HB4.out⟩
            case measure => simp [intOf]; omega
    · obtain rfl : k = n := by omega
      go_wp2_with fail
      go_ret2
      refine ⟨?_, HB.out⟩
      have := tgtK_all l al ld ho
      rw [HN.out, HT.out] at this
      rw [← this]
      rfl

end Go.Proofs.Ythmifcbhbcjeiaa

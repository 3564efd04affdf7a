/- TrimSafe: the walk. -/
import Derived.Test.YtflndnbjdhbppaaRef19B
import Derived.Test.YtflndnbjdhbppaaAwake19
import Derived.Test.YtflndnbjdhbppaaTable
import Derived.Test.YtflndnbjdhbppaaBase2
namespace Go.Proofs.Ytflndnbjdhbppaa
open Go Go.RowKit Go.Sort

/-- The chunk that loses, one behind the other, what may go. -/
def DRl (c0 c1 c2 : Int) (h gone : List Int) (w5 : World) (BD : Nat) (s : Value) (wr : World) : Prop :=
  ∃ (k : Nat) (hs : List Int) (vd : Value), s = .int .i64 k ∧ k ≤ gone.length ∧ (gone.take k).foldl woL h = hs ∧ hs.length ≤ h.length ∧ Bx wr BD 39 [.int .i64 c0, .int .i64 c1, .int .u32 c2, vd] ∧ Rd wr 1 vd hs.length (hs.flatMap inC) ∧
    (∀ g off c, vd = .slice (some ⟨g, off, none⟩) hs.length c → 0 < hs.length → g ≠ BD) ∧ Fr (fun k => k = BD) w5 wr
theorem DRl_step {h gone hs : List Int} {k : Nat} (hk : k < gone.length) (e : (gone.take k).foldl woL h = hs) : (gone.take (k + 1)).foldl woL h = woL hs (at_ gone k) := by
  rw [take_at hk, List.foldl_append, e]
  rfl
theorem Rd.fr1 {w w' : World} {size : Nat} {v : Value} {n : Nat} {xs : List Value} {BD : Nat} (h : Rd w size v n xs) (hf : Fr (fun k => k = BD) w w') (hn : ∀ g off c, v = .slice (some ⟨g, off, none⟩) n c → 0 < n → g ≠ BD) : Rd w' size v n xs :=
  h.keep hf.size (fun b off c e h0 => by
    obtain ⟨b', off', cap', hv, _, _, hlt, _⟩ := h.form h0
    rw [e] at hv
    injection hv with e1 e2 e3
    injection e1 with e1
    injection e1 with e4 e5
    subst e4
    exact hf.block _ hlt (hn _ _ _ e h0))

set_option maxHeartbeats 4000000 in
set_option maxRecDepth 100000 in
theorem trimSafe_walk (c0 c1 c2 : Int) (vh : Value) (h : List Int) (vn : Value) (l : List Nq) (va : Value) (al : List Int) (vd : Value) (ld : List Ld) (want : Int) (W : World) (hH : Rd W 1 vh h.length (h.flatMap inC)) (hN : Rd W 4 vn l.length (l.flatMap noC)) (hA : Rd W 1 va al.length (al.flatMap inC)) (hD : Rd W 2 vd ld.length (ld.flatMap ldC)) :
    Calls Try.prog 8 #[.agg #[.int .i64 c0, .int .i64 c1, .int .u32 c2, vh], vn, va, vd, .int .i64 want] W fun e w' => e = .returned (.bool true) ∧ Below W.heap.size W w' := by
  obtain ⟨A, cap, hv, _, _⟩ := hH.shape
  subst hv
  obtain ⟨An, capn, hv, _, _⟩ := hN.shape
  subst hv
  obtain ⟨Aa, capa, hv, _, _⟩ := hA.shape
  subst hv
  obtain ⟨Ad, capd, hv, _, _⟩ := hD.shape
  subst hv
  have HH := Lib.hid hH
  have HN := Lib.hid hN
  have HA := Lib.hid hA
  have HD := Lib.hid hD
  clear hH hA hN hD
  go_enter Try.func8, Try.ntmps8
  go_wp2_with fail
  have hal := below_one W (.cells #[.int .i64 c0, .int .i64 c1, .int .u32 c2, .slice A h.length cap] 39)
  have hbc := Bx.new W 39 [.int .i64 c0, .int .i64 c1, .int .u32 c2, .slice A h.length cap]
  change Bx (W.alloc (.cells #[.int .i64 c0, .int .i64 c1, .int .u32 c2, .slice A h.length cap] 39)) _ _ _ at hbc
  generalize (W.alloc (.cells #[.int .i64 c0, .int .i64 c1, .int .u32 c2, .slice A h.length cap] 39)) = w0 at *
  refine (awake19 w0).mono ?_
  rintro e w1 ⟨rfl, hb1⟩
  have HB1 := Lib.hid (below_then hal hb1)
  have HC1 := Lib.hid (hbc.below' hb1)
  obtain ⟨B, hB⟩ : ∃ B, W.heap.size = B := ⟨_, rfl⟩
  have HBZ := Lib.hid hB
  rw [hB] at HC1 ⊢
  clear hal hbc hb1 hB
  obtain ⟨q0, q1, q2, q3⟩ := HC1.out.four
  go_wp2_with fail
  refine (few19 c0 c1 c2 _ _ _ _ h l al ld w1 (HH.out.below HB1.out (Nat.le_refl _)) (HN.out.below HB1.out (Nat.le_refl _)) (HA.out.below HB1.out (Nat.le_refl _)) (HD.out.below HB1.out (Nat.le_refl _))).mono ?_
  rintro e w2 ⟨b, rfl, hf, hb2⟩
  have HB2 := Lib.hid (below_then HB1.out hb2)
  have HC2 := Lib.hid (HC1.out.below' hb2)
  clear hb2 q0 q1 q2 q3 HC1 HB1
  cases b with
  | false =>
    clear hf
    go_wp2_with fail
    go_ret
    exact ⟨rfl, HBZ.out ▸ HB2.out⟩
  | true =>
    obtain ⟨h1, h2, h3, h4⟩ := hf rfl
    obtain ⟨q0, q1, q2, q3⟩ := HC2.out.four
    clear hf
    go_wp2_with fail
    have hal := below_one w2 (.cells #[.int .i64 c0, .int .i64 c1, .int .u32 c2, .slice A h.length cap] 39)
    refine (tmay_any c0 c1 c2 _ h w2.heap.size _ (Bx.new w2 39 [.int .i64 c0, .int .i64 c1, .int .u32 c2, .slice A h.length cap]) ((HH.out.below HB2.out (Nat.le_refl _)).below hal (Nat.le_refl _))).mono ?_
    rintro e w3 ⟨b, rfl, hris, hb3⟩
    have HB3 := Lib.hid (below_then (below_then HB2.out hal) hb3)
    have HC3 := Lib.hid ((HC2.out.below' hal).below' hb3)
    clear hb3 hal q0 q1 q2 q3 HC2 HB2
    cases b with
    | false =>
      clear hris
      go_wp2_with fail
      go_ret
      exact ⟨rfl, HBZ.out ▸ HB3.out⟩
    | true =>
      have HRI := Lib.hid (hris rfl)
      have HND := Lib.hid HRI.out.nodup
      clear hris
      obtain ⟨q0, q1, q2, q3⟩ := HC3.out.four
      go_wp2_with fail
      refine (all_any c0 c1 c2 _ h _ l _ al _ ld want w3 HND.out (by omega) (by omega) (HH.out.below HB3.out (Nat.le_refl _)) (HN.out.below HB3.out (Nat.le_refl _)) (HA.out.below HB3.out (Nat.le_refl _)) (HD.out.below HB3.out (Nat.le_refl _))).mono ?_
      rintro e w4 ⟨v4, rfl, ho4, hb4⟩
      obtain ⟨A4, cap4, e4⟩ := ho4.slice_
      subst e4
      have HAT : Hid (∀ k, k < (goneT h l al ld want).length → at_ (goneT h l al ld want) k ∈ ((goneT h l al ld want).take k).foldl woL h) := fun k hk => (gone_there h k hk).1
      have HRE : Hid ((goneT h l al ld want).foldl woL h = restT h l al ld want) := Lib.hid rfl
      have HLN : Hid ((restT h l al ld want).length + (goneT h l al ld want).length = h.length) := gone_len (G := gB l al) (I := iB l al) (bt := btB l ld) (want := want) h HND.out
      have hgl : (goneT h l al ld want).length ≤ h.length := by have := HLN.out; omega
      have HAL : Hid (∀ k, k < (goneT h l al ld want).length → hasB al (at_ (goneT h l al ld want) k) = true) := fun k hk => by
        rcases (gone_there h k hk).2 with h5 | h5
        · unfold gB at h5; simp at h5; exact h5.2
        · unfold iB at h5; simp at h5; exact h5.2
      have HFW : Hid (want < 1 ∨ ((goodL h l al).length : Int) < want → (goneT h l al ld want).length = 0) := fun h5 => by
        rw [goodL_eq] at h5
        unfold goneT
        rw [goneL_none (excL_few h5)]
        rfl
      have HRG : Hid (1 ≤ want → want ≤ (goodL h l al).length → ((goodL (restT h l al ld want) l al).length : Int) = want) := fun h5 h6 => by
        rw [goodL_eq] at h6 ⊢
        exact (rest_good (iB_dis l al) h5 h HND.out h6).1
      obtain ⟨gone, hgo⟩ : ∃ g, goneT h l al ld want = g := ⟨_, rfl⟩
      rw [hgo] at ho4 HAT HRE hgl HLN HAL HFW ⊢
      obtain ⟨n, hn⟩ : ∃ n, gone.length = n := ⟨_, rfl⟩
      rw [hn] at ho4 hgl HLN HFW ⊢
      have HGL := Lib.hid hn
      have HGO4 := Lib.hid ho4
      have HB4 := Lib.hid (below_then HB3.out hb4)
      have HC4 := Lib.hid (HC3.out.below' hb4)
      have hn63 : n ≤ 9223372036854775807 := by omega
      clear hn hgo ho4 hb4 HC3 HB3 q0 q1 q2 q3
      obtain ⟨q0, q1, q2, q3⟩ := HC4.out.four
      go_wp2_with fail
      refine (good_any c0 c1 c2 _ h _ l _ al w4 (by omega) (by omega) (HH.out.below HB4.out (Nat.le_refl _)) (HN.out.below HB4.out (Nat.le_refl _)) (HA.out.below HB4.out (Nat.le_refl _))).mono ?_
      rintro e w4b ⟨v4b, rfl, ho4b, hb4b⟩
      obtain ⟨A4b, cap4b, e4b⟩ := ho4b.slice_
      subst e4b
      obtain ⟨ng, hng⟩ : ∃ n, (goodL h l al).length = n := ⟨_, rfl⟩
      have hngl : (goodL h l al).length ≤ h.length := goodL_len h l al
      rw [hng] at HFW HRG hngl ⊢
      have HB4b := Lib.hid (below_then HB4.out hb4b)
      have HC4b := Lib.hid (HC4.out.below' hb4b)
      have HGO4b := Lib.hid (HGO4.out.below hb4b (Nat.le_refl _))
      have hs4b := hb4b.size
      clear ho4b hb4b hng q0 q1 q2 q3 HC4
      obtain ⟨q0, q1, q2, q3⟩ := HC4b.out.four
      go_wp2_with fail
      have hbb : B < w4b.heap.size := HC4b.out.lt
      have hal := below_one w4b (.cells #[.int .i64 c0, .int .i64 c1, .int .u32 c2, .slice A h.length cap] 39)
      have hbd := Bx.new w4b 39 [.int .i64 c0, .int .i64 c1, .int .u32 c2, .slice A h.length cap]
      change Bx (w4b.alloc (.cells #[.int .i64 c0, .int .i64 c1, .int .u32 c2, .slice A h.length cap] 39)) _ _ _ at hbd
      generalize (w4b.alloc (.cells #[.int .i64 c0, .int .i64 c1, .int .u32 c2, .slice A h.length cap] 39)) = w5 at *
      have HB5 := Lib.hid (below_then HB4b.out hal)
      have HC5 := Lib.hid (HC4b.out.below' hal)
      have HGO := Lib.hid (HGO4b.out.below hal (Nat.le_refl _))
      have HD5 := Lib.hid hbd
      have hw34 : W.heap.size ≤ w4b.heap.size := HB4b.out.size
      have HGB := Lib.hid (fun (g : Nat) (hg : blk (.slice A4 n cap4) = some g) => (HGO4b.out.blk_lt hg).2)
      obtain ⟨BD, hBD⟩ : ∃ BD, w4b.heap.size = BD := ⟨_, rfl⟩
      rw [hBD] at HD5 hw34 HGB hbb ⊢
      have HBB := Lib.hid hbb
      clear hal hbd hBD q0 q1 q2 q3 HC4b HB4b HGO4b HB4 HGO4
      go_loopw [16] (DRl c0 c1 c2 h gone w5 BD) (fun s16 _ => n - (intOf s16).toNat)
      case atStart => exact ⟨0, h, .slice A h.length cap, rfl, by omega, rfl, Nat.le_refl _, HD5.out, HH.out.below HB5.out (Nat.le_refl _), fun g off c e h0 => by
          obtain ⟨b, off', cap', hv, _, _, hlt, _⟩ := HH.out.form h0
          rw [e] at hv
          injection hv with e1 e2 e3
          injection e1 with e1
          injection e1 with e4 e5
          subst e4
          omega, Fr.refl _ _⟩
      case round =>
        obtain ⟨k, hs, vd', rfl, hk, hhs, hhl, hbd, hrd, hsep, hfr⟩ := hrel
        obtain ⟨Ah, caph, eh, _, hcp⟩ := hrd.shape
        subst eh
        rw [HGL.out] at hk
        have HBD := Lib.hid hbd
        have HRD := Lib.hid hrd
        have HSEP := Lib.hid hsep
        have HFR := Lib.hid hfr
        have HHS := Lib.hid hhs
        have hsw := hfr.size
        obtain ⟨p0, p1, p2, p3⟩ := hbd.four
        clear hbd hrd hsep hfr hhs
        by_cases hlt : k < n
        · have hltI : (k : Int) < (n : Int) := by omega
          have hG1 := (HGO.out.fr HFR.out (fun g hg e => by have := HGB.out g hg; have e' : g = BD := e; omega)).rd
          obtain ⟨bg, og, e1, hbgl⟩ := hG1.addr (by omega)
          subst e1
          have g0 := rd_int hG1 k (by rw [HGL.out]; exact hlt)
          have hst := DRl_step (h := h) (k := k) (by rw [HGL.out]; exact hlt) HHS.out
          have hat := HAT.out k (by rw [HGL.out]; exact hlt)
          rw [HHS.out] at hat
          obtain ⟨z, hz⟩ : ∃ z, at_ gone k = z := ⟨_, rfl⟩
          rw [hz] at g0 hst hat
          have HST := Lib.hid hst
          have HZ := Lib.hid hat
          have HAZ := Lib.hid hz
          have HBR := Lib.hid (HB5.out.trans (HFR.out.below (B := W.heap.size) (by have := HB5.out.size; omega) (fun q hq => by have e' : q = BD := hq; omega)))
          clear hst hat hz hG1
          have hal := HAL.out k (by rw [HGL.out]; exact hlt)
          rw [HAZ.out] at hal
          have HALZ := Lib.hid hal
          have HZS : Hid (hasB hs z = true) := hasB_iff.2 HZ.out
          have hsl : hs.length ≤ caph := by obtain ⟨_, _, hv, _, h6⟩ := HRD.out.shape; cases hv; exact h6
          clear hal
          go_wp2_with fail
          go_quiet ((go_at_call 21; exact Calls.quiet_of_same ((rhas_in (.slice Ah hs.length caph) hs z _ (HRD.out.drewN _)).mono fun _ _ h => ⟨h.1, h.2.symm⟩)))
          have BD5 := Lib.hid (HBD.out.drewN nq)
          have RD5 := Lib.hid (HRD.out.drewN nq)
          have HF5 := Lib.hid (HFR.out.thenDrewN nq)
          have HB5r := Lib.hid (below_drewN HBR.out nq)
          have g1 : (wr.drewN nq).cell? ⟨bg, og + k, none⟩ = some (.int .i64 z) := g0
          obtain ⟨p0', p1', p2', p3'⟩ := BD5.out.four
          rw [HZS.out]
          clear p0 p1 p2 p3 g0 HBD HRD HFR HBR
          generalize wr.drewN nq = wr at *
          go_wp2_with fail
          refine (rhas_in _ al z _ (HA.out.below HB5r.out (Nat.le_refl _))).mono ?_
          rintro e w6 ⟨rfl, rfl⟩
          rw [HALZ.out]
          have HBD := BD5
          have HRD := RD5
          have HFR := HF5
          have p0 := p0'
          have p1 := p1'
          have p2 := p2'
          have p3 := p3'
          have g0 := g1
          clear BD5 RD5 HF5 p0' p1' p2' p3' g1
          go_wp2_with fail
          refine wp_region_quiet_tail (C := fun w' => ∃ n, w' = World.drewN _ n) 5 (by kernel_rfl) (by kernel_rfl) ⟨1, rfl⟩ ?_
          simp only [List.take_succ_cons, List.take_zero, List.drop_succ_cons, List.drop_zero]
          repeat (go_big_quiet_step (fail))
          refine wpQuiet_nil ?_
          intro _ hw'
          obtain ⟨nq, hw''⟩ := hw'
          subst hw''
          have BD6 := Lib.hid ((HBD.out : Bx wr BD 39 _).drewN nq)
          have RD6 := Lib.hid ((HRD.out : Rd wr 1 _ _ _).drewN nq)
          have HF6 := Lib.hid ((HFR.out : Fr (fun k => k = BD) w5 wr).thenDrewN nq)
          clear p0 p1 p2 p3 g0 HBD HRD HFR
          generalize wr.drewN nq = w6 at *
          go_wp2_with fail
          refine (rwo_any c0 c1 c2 _ hs z w6 (by omega) RD6.out).mono ?_
          rintro e w7 ⟨v7, rfl, ho7, hb7⟩
          obtain ⟨A7, cap7, e7⟩ := ho7.slice_
          subst e7
          have HO7 := Lib.hid ho7
          have BD7 := Lib.hid (BD6.out.below' hb7)
          have hbd6 := BD6.out.lt
          have HF7 := Lib.hid (HF6.out.thenBelow hb7)
          clear ho7 hb7
          go_wp2_with (with_reducible refine wpList_store_box rfl 39 _ _ rfl BD 39 _ [.int .i64 c0, .int .i64 c1, .int .u32 c2, .slice A7 (woL hs z).length cap7] rfl BD7.out rfl rfl ?hk ?hl ?hm)
          case hk => kernel_rfl
          case hl => simp [Value.oneCell']
          case hm =>
            intro w8 hbx8 hfr8
            have HX8 := Lib.hid hbx8
            have HF8 := Lib.hid hfr8
            clear hbx8 hfr8
            go_wp2_with fail
            go_roundw
            case rel =>
              refine ⟨k + 1, woL hs z, .slice A7 (woL hs z).length cap7, by go_num, by have := HGL.out; omega, HST.out, Nat.le_trans (List.length_filter_le _ _) hhl, HX8.out, (HO7.out.fr HF8.out (fun g hg e => by have := (HO7.out.blk_lt hg).1; have e' : g = BD := e; omega)).rd, fun g off c e h0 => ?_, HF7.out.trans HF8.out (fun _ h => .inl h)⟩
              obtain ⟨g', off', cap', hv, _, _, hb', _, _⟩ := HO7.out.form h0
              rw [e] at hv
              injection hv with e1 e2 e3
              injection e1 with e1
              injection e1 with e4 e5
              subst e4
              omega
            case measure => simp [intOf]; omega
        · obtain rfl : k = n := by omega
          have hre : hs = restT h l al ld want := by rw [← HRE.out, ← HHS.out, ← HGL.out, List.take_length]
          subst hre
          have HB6 := Lib.hid (HB5.out.trans (HFR.out.below (B := W.heap.size) (by have := HB5.out.size; omega) (fun q hq => by have e' : q = BD := hq; omega)))
          have HC6 := Lib.hid (HC5.out.fr HFR.out (fun e => by have e' : B = BD := e; have := HBB.out; omega))
          obtain ⟨q0, q1, q2, q3⟩ := HC6.out.four
          go_wp2_with fail
          refine (good_any c0 c1 c2 _ (restT h l al ld want) _ l _ al wr (by omega) (by omega) HRD.out (HN.out.below HB6.out (Nat.le_refl _)) (HA.out.below HB6.out (Nat.le_refl _))).mono ?_
          rintro e w7 ⟨v7, rfl, ho7, hb7⟩
          obtain ⟨A7, cap7, e7⟩ := ho7.slice_
          subst e7
          have HB7 := Lib.hid (below_then HB6.out hb7)
          have HD7 := Lib.hid (HBD.out.below' hb7)
          have HC7 := Lib.hid (HC6.out.below' hb7)
          obtain ⟨m, hm⟩ : ∃ n, (goodL (restT h l al ld want) l al).length = n := ⟨_, rfl⟩
          have hml := goodL_len (restT h l al ld want) l al
          rw [hm] at HRG hml ⊢
          clear ho7 hb7 q0 q1 q2 q3 p0 p1 p2 p3 HBD hm
          obtain ⟨q0, q1, q2, q3⟩ := HC7.out.four
          obtain ⟨p0, p1, p2, p3⟩ := HD7.out.four
          obtain ⟨r, hr⟩ : ∃ n, (restT h l al ld want).length = n := ⟨_, rfl⟩
          rw [hr] at hml HLN p3
          obtain ⟨nh, hnh⟩ : ∃ n, h.length = n := ⟨_, rfl⟩
          rw [hnh] at q3 HLN
          have hln := HLN.out
          by_cases h5 : want < 1
          · have hn0 := HFW.out (.inl h5)
            subst hn0
            clear hln
            go_wp2_with fail
            go_ret
            exact ⟨rfl, HBZ.out ▸ HB7.out⟩
          · by_cases h6 : (ng : Int) < want
            · have hn0 := HFW.out (.inr h6)
              subst hn0
              clear hln
              go_wp2_with fail
              go_ret
              exact ⟨rfl, HBZ.out ▸ HB7.out⟩
            · have h7 := HRG.out (by omega) (by omega)
              have h7' : ((m : Int) == want) = true := by simpa using h7
              have h8' : ((r : Int) == (nh : Int) - (k : Int)) = true := by simpa using (by omega : (r : Int) = (nh : Int) - (k : Int))
              clear h7 hln
              go_wp2_with fail
              go_ret
              exact ⟨by first | rfl | trivial | (simp; omega), HBZ.out ▸ HB7.out⟩

end Go.Proofs.Ytflndnbjdhbppaa

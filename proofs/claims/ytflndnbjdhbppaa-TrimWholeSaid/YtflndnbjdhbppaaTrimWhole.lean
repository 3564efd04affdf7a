/- TrimWhole: the walk. -/
import Derived.Test.YtflndnbjdhbppaaRef19B
import Derived.Test.YtflndnbjdhbppaaAwake19
import Derived.Test.YtflndnbjdhbppaaTable
import Derived.Test.YtflndnbjdhbppaaBase2
namespace Go.Proofs.Ytflndnbjdhbppaa
open Go Go.RowKit Go.Sort

/-- The chunk that loses, one behind the other, what may go. -/
def DRl (c0 c1 c2 : Int) (h gone : List Int) (w5 : World) (BD : Nat) (s : Value) (wr : World) : Prop :=
  ∃ (k : Nat) (hs : List Int) (vd : Value), s = .int .i64 k ∧ k ≤ gone.length ∧ (gone.take k).foldl woL h = hs ∧ hs.length ≤ h.length ∧ Bx wr BD 39 [.int .i64 c0, .int .i64 c1, .int .u32 c2, vd] ∧ Rd wr 1 vd hs.length (hs.flatMap inC) ∧
    (∀ g off c, vd = .slice (some ⟨g, off, none⟩) hs.length c → 0 < hs.length → g ≠ BD) ∧ Fr (fun k => k = BD) w5 wr
theorem DRl_step {h gone hs : List Int} {k : Nat} (hk : k < gone.length) (e : (gone.take k).foldl woL h = hs) : (gone.take (k + 1)).foldl woL h = woL hs (at_ gone k) := by
  rw [take_at hk, List.foldl_append, e]
  rfl
theorem Rd.fr1 {w w' : World} {size : Nat} {v : Value} {n : Nat} {xs : List Value} {BD : Nat} (h : Rd w size v n xs) (hf : Fr (fun k => k = BD) w w') (hn : ∀ g off c, v = .slice (some ⟨g, off, none⟩) n c → 0 < n → g ≠ BD) : Rd w' size v n xs :=
  h.keep hf.size (fun b off c e h0 => by
    obtain ⟨b', off', cap', hv, _, _, hlt, _⟩ := h.form h0
    rw [e] at hv
    injection hv with e1 e2 e3
    injection e1 with e1
    injection e1 with e4 e5
    subst e4
    exact hf.block _ hlt (hn _ _ _ e h0))

set_option maxHeartbeats 4000000 in
set_option maxRecDepth 100000 in
theorem trimWhole_walk (c0 c1 c2 : Int) (vh : Value) (h : List Int) (vn : Value) (l : List Nq) (va : Value) (al : List Int) (vd : Value) (ld : List Ld) (want : Int) (W : World) (hH : Rd W 1 vh h.length (h.flatMap inC)) (hN : Rd W 4 vn l.length (l.flatMap noC)) (hA : Rd W 1 va al.length (al.flatMap inC)) (hD : Rd W 2 vd ld.length (ld.flatMap ldC)) :
    Calls Try.prog 12 #[.agg #[.int .i64 c0, .int .i64 c1, .int .u32 c2, vh], vn, va, vd, .int .i64 want] W fun e w' => e = .returned (.bool true) ∧ Below W.heap.size W w' := by
  obtain ⟨A, cap, hv, _, _⟩ := hH.shape
  subst hv
  obtain ⟨An, capn, hv, _, _⟩ := hN.shape
  subst hv
  obtain ⟨Aa, capa, hv, _, _⟩ := hA.shape
  subst hv
  obtain ⟨Ad, capd, hv, _, _⟩ := hD.shape
  subst hv
  have HH := Lib.hid hH
  have HN := Lib.hid hN
  have HA := Lib.hid hA
  have HD := Lib.hid hD
  clear hH hA hN hD
  go_enter Try.func12, Try.ntmps12
  go_wp2_with fail
  have hal := below_one W (.cells #[.int .i64 c0, .int .i64 c1, .int .u32 c2, .slice A h.length cap] 39)
  have hbc := Bx.new W 39 [.int .i64 c0, .int .i64 c1, .int .u32 c2, .slice A h.length cap]
  change Bx (W.alloc (.cells #[.int .i64 c0, .int .i64 c1, .int .u32 c2, .slice A h.length cap] 39)) _ _ _ at hbc
  generalize (W.alloc (.cells #[.int .i64 c0, .int .i64 c1, .int .u32 c2, .slice A h.length cap] 39)) = w0 at *
  refine (awake19 w0).mono ?_
  rintro e w1 ⟨rfl, hb1⟩
  have HB1 := Lib.hid (below_then hal hb1)
  have HC1 := Lib.hid (hbc.below' hb1)
  obtain ⟨B, hB⟩ : ∃ B, W.heap.size = B := ⟨_, rfl⟩
  have HBZ := Lib.hid hB
  rw [hB] at HC1 ⊢
  clear hal hbc hb1 hB
  obtain ⟨q0, q1, q2, q3⟩ := HC1.out.four
  go_wp2_with fail
  refine (few19 c0 c1 c2 _ _ _ _ h l al ld w1 (HH.out.below HB1.out (Nat.le_refl _)) (HN.out.below HB1.out (Nat.le_refl _)) (HA.out.below HB1.out (Nat.le_refl _)) (HD.out.below HB1.out (Nat.le_refl _))).mono ?_
  rintro e w2 ⟨b, rfl, hf, hb2⟩
  have HB2 := Lib.hid (below_then HB1.out hb2)
  have HC2 := Lib.hid (HC1.out.below' hb2)
  clear hb2 q0 q1 q2 q3 HC1 HB1
  cases b with
  | false =>
    clear hf
    go_wp2_with fail
    go_ret
    exact ⟨rfl, HBZ.out ▸ HB2.out⟩
  | true =>
    obtain ⟨h1, h2, h3, h4⟩ := hf rfl
    obtain ⟨q0, q1, q2, q3⟩ := HC2.out.four
    clear hf
    go_wp2_with fail
    have hal := below_one w2 (.cells #[.int .i64 c0, .int .i64 c1, .int .u32 c2, .slice A h.length cap] 39)
    refine (tmay_any c0 c1 c2 _ h w2.heap.size _ (Bx.new w2 39 [.int .i64 c0, .int .i64 c1, .int .u32 c2, .slice A h.length cap]) ((HH.out.below HB2.out (Nat.le_refl _)).below hal (Nat.le_refl _))).mono ?_
    rintro e w3 ⟨b, rfl, hris, hb3⟩
    have HB3 := Lib.hid (below_then (below_then HB2.out hal) hb3)
    have HC3 := Lib.hid ((HC2.out.below' hal).below' hb3)
    clear hb3 hal q0 q1 q2 q3 HC2 HB2
    cases b with
    | false =>
      clear hris
      go_wp2_with fail
      go_ret
      exact ⟨rfl, HBZ.out ▸ HB3.out⟩
    | true =>
      have HRI := Lib.hid (hris rfl)
      have HND := Lib.hid HRI.out.nodup
      clear hris
      obtain ⟨q0, q1, q2, q3⟩ := HC3.out.four
      by_cases hw : want < 1
      · go_wp2_with fail
        go_ret
        exact ⟨rfl, HBZ.out ▸ HB3.out⟩
      by_cases hw8 : want > 8
      · go_wp2_with fail
        go_ret
        exact ⟨rfl, HBZ.out ▸ HB3.out⟩
      go_wp2_with fail
      refine (excess_any c0 c1 c2 _ h _ l _ al _ ld want w3 HND.out (by omega) (by omega) (HH.out.below HB3.out (Nat.le_refl _)) (HN.out.below HB3.out (Nat.le_refl _)) (HA.out.below HB3.out (Nat.le_refl _)) (HD.out.below HB3.out (Nat.le_refl _))).mono ?_
      rintro e w3' ⟨rfl, hb3'⟩
      obtain ⟨o, ho⟩ : ∃ o, excT h l al ld want = o := ⟨_, rfl⟩
      rw [ho]
      have HO := Lib.hid ho
      have HB3' := Lib.hid (below_then HB3.out hb3')
      have HC3' := Lib.hid (HC3.out.below' hb3')
      clear ho hb3' q0 q1 q2 q3 HB3 HC3
      obtain ⟨q0, q1, q2, q3⟩ := HC3'.out.four
      unfold optI
      obtain ⟨x, hx⟩ : ∃ x, o.getD 0 = x := ⟨_, rfl⟩
      rw [hx]
      clear hx
      have key : ∀ (y : Bool) (w3 : World), o.isSome = y → Below W.heap.size W w3 → Bx w3 B 39 [.int .i64 c0, .int .i64 c1, .int .u32 c2, .slice A h.length cap] → True := fun _ _ _ _ _ => trivial
      clear key
      cases o with
      | none =>
        simp only [Option.isSome_none]
        obtain ⟨t0, t1, t2, t3⟩ := (HC3'.out.alloc (.cells #[.int .i64 c0, .int .i64 c1, .int .u32 c2, .slice A h.length cap] 39)).four
        go_wp2_with fail
        have HB3 := HB3'
        have HC3 := HC3'
        clear HB3' HC3'
        generalize w3' = w3 at *
        have hal := below_one w3 (.cells #[.int .i64 c0, .int .i64 c1, .int .u32 c2, .slice A h.length cap] 39)
        have hbd := Bx.new w3 39 [.int .i64 c0, .int .i64 c1, .int .u32 c2, .slice A h.length cap]
        change Bx (w3.alloc (.cells #[.int .i64 c0, .int .i64 c1, .int .u32 c2, .slice A h.length cap] 39)) _ _ _ at hbd
        generalize (w3.alloc (.cells #[.int .i64 c0, .int .i64 c1, .int .u32 c2, .slice A h.length cap] 39)) = w4 at *
        have HB4 := Lib.hid (below_then HB3.out hal)
        have HC4 := Lib.hid (HC3.out.below' hal)
        have HD4 := Lib.hid hbd
        have hw34 : W.heap.size ≤ w3.heap.size := HB3.out.size
        have hbb : B < w3.heap.size := HC3.out.lt
        obtain ⟨BD, hBD⟩ : ∃ BD, w3.heap.size = BD := ⟨_, rfl⟩
        rw [hBD] at HD4 hw34 hbb ⊢
        have hlt4 : BD < w4.heap.size := HD4.out.lt
        clear hal hbd hBD q0 q1 q2 q3 t0 t1 t2 t3 HC3 HB3
        refine (all_any c0 c1 c2 _ h _ l _ al _ ld want w4 HND.out (by omega) (by omega) (HH.out.below HB4.out (Nat.le_refl _)) (HN.out.below HB4.out (Nat.le_refl _)) (HA.out.below HB4.out (Nat.le_refl _)) (HD.out.below HB4.out (Nat.le_refl _))).mono ?_
        rintro e w5 ⟨v5, rfl, ho5, hb5⟩
        obtain ⟨A5, cap5, e5⟩ := ho5.slice_
        subst e5
        have HAT : Hid (∀ k, k < (goneT h l al ld want).length → at_ (goneT h l al ld want) k ∈ ((goneT h l al ld want).take k).foldl woL h) := fun k hk => (gone_there h k hk).1
        have HRE : Hid ((goneT h l al ld want).foldl woL h = restT h l al ld want) := Lib.hid rfl
        have HLN : Hid ((restT h l al ld want).length + (goneT h l al ld want).length = h.length) := gone_len (G := gB l al) (I := iB l al) (bt := btB l ld) (want := want) h HND.out
        have hgl : (goneT h l al ld want).length ≤ h.length := by have := HLN.out; omega
        have HRG : Hid (want ≤ (goodL h l al).length → ((goodL (restT h l al ld want) l al).length : Int) = want ∧ (idlL (restT h l al ld want) l al).length = 0) := fun h6 => by
          rw [goodL_eq] at h6 ⊢
          have := rest_good (G := gB l al) (I := iB l al) (bt := btB l ld) (iB_dis l al) (by omega : 1 ≤ want) h HND.out h6
          exact ⟨this.1, by unfold idlL; exact congrArg List.length this.2⟩
        have HFW : Hid (((goodL h l al).length : Int) < want → restT h l al ld want = h) := fun h5 => by
          rw [goodL_eq] at h5
          exact restL_none (excL_few (.inr h5))
        obtain ⟨gone, hgo⟩ : ∃ g, goneT h l al ld want = g := ⟨_, rfl⟩
        rw [hgo] at ho5 HAT HRE hgl ⊢
        obtain ⟨n, hn⟩ : ∃ n, gone.length = n := ⟨_, rfl⟩
        rw [hn] at ho5 hgl ⊢
        have HGL := Lib.hid hn
        have HGO := Lib.hid ho5
        have HB5 := Lib.hid (below_then HB4.out hb5)
        have HC5 := Lib.hid (HC4.out.below' hb5)
        have HD5 := Lib.hid (HD4.out.below' hb5)
        have hs5 := hb5.size
        have hn63 : n ≤ 9223372036854775807 := by omega
        clear hn hgo ho5 hb5 HC4 HD4
        go_wp2_with fail
        have HBB : Hid (B < BD) := Lib.hid hbb
        go_loopw [17] (DRl c0 c1 c2 h gone w5 BD) (fun s17 _ => n - (intOf s17).toNat)
        case atStart => exact ⟨0, h, .slice A h.length cap, rfl, by omega, rfl, Nat.le_refl _, HD5.out, HH.out.below HB5.out (Nat.le_refl _), fun g off c e h0 => by
            obtain ⟨b, off', cap', hv, _, _, hlt, _⟩ := HH.out.form h0
            rw [e] at hv
            injection hv with e1 e2 e3
            injection e1 with e1
            injection e1 with e4 e5
            subst e4
            omega, Fr.refl _ _⟩
        case round =>
          obtain ⟨k, hs, vd', rfl, hk, hhs, hhl, hbd, hrd, hsep, hfr⟩ := hrel
          obtain ⟨Ah, caph, eh, _, hcp⟩ := hrd.shape
          subst eh
          rw [HGL.out] at hk
          have HBD := Lib.hid hbd
          have HRD := Lib.hid hrd
          have HSEP := Lib.hid hsep
          have HFR := Lib.hid hfr
          have HHS := Lib.hid hhs
          have hsw := hfr.size
          obtain ⟨p0, p1, p2, p3⟩ := hbd.four
          clear hbd hrd hsep hfr hhs
          by_cases hlt : k < n
          · have hltI : (k : Int) < (n : Int) := by omega
            have hG1 := (HGO.out.fr HFR.out (fun g hg e => by have := (HGO.out.blk_lt hg).1; have e' : g = BD := e; omega)).rd
            obtain ⟨bg, og, e1, hbgl⟩ := hG1.addr (by omega)
            subst e1
            have g0 := rd_int hG1 k (by rw [HGL.out]; exact hlt)
            have hst := DRl_step (h := h) (k := k) (by rw [HGL.out]; exact hlt) HHS.out
            have hat := HAT.out k (by rw [HGL.out]; exact hlt)
            rw [HHS.out] at hat
            obtain ⟨z, hz⟩ : ∃ z, at_ gone k = z := ⟨_, rfl⟩
            rw [hz] at g0 hst hat
            have HST := Lib.hid hst
            have HZ := Lib.hid hat
            have HAZ := Lib.hid hz
            have HBR := Lib.hid (HB5.out.trans (HFR.out.below (B := W.heap.size) (by have := HB5.out.size; omega) (fun q hq => by have e' : q = BD := hq; omega)))
            clear hst hat hz hG1
            go_wp2_with fail
            refine wp_region_quiet_tail (C := fun w' => ∃ n, w' = World.drewN _ n) 5 (by kernel_rfl) (by kernel_rfl) ⟨1, rfl⟩ ?_
            simp only [List.take_succ_cons, List.take_zero, List.drop_succ_cons, List.drop_zero]
            repeat (go_big_quiet_step (fail))
            refine wpQuiet_nil ?_
            intro _ hw'
            obtain ⟨nq, hw''⟩ := hw'
            subst hw''
            have BD6 := Lib.hid ((HBD.out : Bx wr BD 39 _).drewN nq)
            have RD6 := Lib.hid ((HRD.out : Rd wr 1 _ _ _).drewN nq)
            have HF6 := Lib.hid ((HFR.out : Fr (fun k => k = BD) w5 wr).thenDrewN nq)
            clear p0 p1 p2 p3 g0 HBD HRD HFR
            generalize wr.drewN nq = w6 at *
            go_wp2_with fail
            refine (rwo_any c0 c1 c2 _ hs z w6 (by omega) RD6.out).mono ?_
            rintro e w7 ⟨v7, rfl, ho7, hb7⟩
            obtain ⟨A7, cap7, e7⟩ := ho7.slice_
            subst e7
            have HO7 := Lib.hid ho7
            have BD7 := Lib.hid (BD6.out.below' hb7)
            have hbd6 := BD6.out.lt
            have HF7 := Lib.hid (HF6.out.thenBelow hb7)
            clear ho7 hb7
            go_wp2_with (with_reducible refine wpList_store_box rfl 39 _ _ rfl BD 39 _ [.int .i64 c0, .int .i64 c1, .int .u32 c2, .slice A7 (woL hs z).length cap7] rfl BD7.out rfl rfl ?hk ?hl ?hm)
            case hk => kernel_rfl
            case hl => simp [Value.oneCell']
            case hm =>
              intro w8 hbx8 hfr8
              have HX8 := Lib.hid hbx8
              have HF8 := Lib.hid hfr8
              clear hbx8 hfr8
              go_wp2_with fail
              go_roundw
              case rel =>
                refine ⟨k + 1, woL hs z, .slice A7 (woL hs z).length cap7, by go_num, by have := HGL.out; omega, HST.out, Nat.le_trans (List.length_filter_le _ _) hhl, HX8.out, (HO7.out.fr HF8.out (fun g hg e => by have := (HO7.out.blk_lt hg).1; have e' : g = BD := e; omega)).rd, fun g off c e h0 => ?_, HF7.out.trans HF8.out (fun _ h => .inl h)⟩
                obtain ⟨g', off', cap', hv, _, _, hb', _, _⟩ := HO7.out.form h0
                rw [e] at hv
                injection hv with e1 e2 e3
                injection e1 with e1
                injection e1 with e4 e5
                subst e4
                omega
              case measure => simp [intOf]; omega
          · obtain rfl : k = n := by omega
            have hre : hs = restT h l al ld want := by rw [← HRE.out, ← HHS.out, ← HGL.out, List.take_length]
            subst hre
            have HB6 := Lib.hid (HB5.out.trans (HFR.out.below (B := W.heap.size) (by have := HB5.out.size; omega) (fun q hq => by have e' : q = BD := hq; omega)))
            have hrl : (restT h l al ld want).length ≤ 1000 := by omega
            go_wp2_with fail
            refine (good_any c0 c1 c2 _ (restT h l al ld want) _ l _ al wr hrl (by omega) HRD.out (HN.out.below HB6.out (Nat.le_refl _)) (HA.out.below HB6.out (Nat.le_refl _))).mono ?_
            rintro e w7 ⟨v7, rfl, ho7, hb7⟩
            obtain ⟨A7, cap7, e7⟩ := ho7.slice_
            subst e7
            have HB7 := Lib.hid (below_then HB6.out hb7)
            have HD7 := Lib.hid (HBD.out.below' hb7)
            have HR7 := Lib.hid (HRD.out.below hb7 (Nat.le_refl _))
            have HG7 := Lib.hid ho7.rd
            have hml := goodL_len (restT h l al ld want) l al
            have hwt : wholeT (restT h l al ld want) l al want = (decide (((goodL (restT h l al ld want) l al).length : Int) = want) && decide ((idlL (restT h l al ld want) l al).length = 0) && decide (mn2 want ≤ (racksN l (goodL (restT h l al ld want) l al) : Int))) := rfl
            have HWT := Lib.hid hwt
            have hgh := goodL_len h l al
            have HFG : Hid (((goodL h l al).length : Int) < want → ((goodL (restT h l al ld want) l al).length : Int) < want) := fun h5 => by rw [HFW.out h5]; exact h5
            clear ho7 hb7 p0 p1 p2 p3 HBD HRD hwt
            obtain ⟨p0, p1, p2, p3⟩ := HD7.out.four
            obtain ⟨gg, hgg⟩ : ∃ n, goodL (restT h l al ld want) l al = n := ⟨_, rfl⟩
            rw [hgg] at HRG hml HG7 HWT HFG ⊢
            obtain ⟨m, hm⟩ : ∃ n, gg.length = n := ⟨_, rfl⟩
            rw [hm] at HRG hml HWT HFG HG7 ⊢
            have HGM := Lib.hid hm
            have hm63 : m ≤ 9223372036854775807 := by omega
            clear hgg hm
            by_cases h5 : (m : Int) < want
            · by_cases h4 : want < 2
              · go_wp2_with fail
                go_ret
                exact ⟨rfl, HBZ.out ▸ HB7.out⟩
              · go_wp2_with fail
                go_ret
                exact ⟨rfl, HBZ.out ▸ HB7.out⟩
            · have h6 : want ≤ ((goodL h l al).length : Int) := by
                rcases Int.lt_or_le ((goodL h l al).length : Int) want with h7 | h7
                · exact absurd (HFG.out h7) h5
                · exact h7
              obtain ⟨h7, h8⟩ := HRG.out h6
              have HW2 := HWT
              rw [decide_eq_true h7, decide_eq_true h8] at HW2
              clear h6 h7 h8 HWT
              have hmn : (want < 2 → mn2 want = want) ∧ (¬ want < 2 → mn2 want = 2) := ⟨fun h => by unfold mn2; rw [if_pos h], fun h => by unfold mn2; rw [if_neg h]⟩
              obtain ⟨q, hq⟩ : ∃ q, mn2 want = q := ⟨_, rfl⟩
              rw [hq] at hmn HW2
              have HMN := Lib.hid hmn
              clear hmn hq
              by_cases h4 : want < 2
              · rw [HMN.out.1 h4] at HW2
                go_wp2_with fail
                refine (racks_any _ _ l gg w7 (by omega) (by rw [HGM.out]; omega) (HN.out.below HB7.out (Nat.le_refl _)) (by rw [HGM.out]; exact HG7.out)).mono ?_
                rintro e w8 ⟨rfl, hb8⟩
                have HB8 := Lib.hid (below_then HB7.out hb8)
                have HD8 := Lib.hid (HD7.out.below' hb8)
                have HR8 := Lib.hid (HR7.out.below hb8 (Nat.le_refl _))
                obtain ⟨r, hr⟩ : ∃ r, racksN l gg = r := ⟨_, rfl⟩
                rw [hr] at HW2 ⊢
                clear hb8 hr p0 p1 p2 p3 HD7 HR7
                obtain ⟨p0, p1, p2, p3⟩ := HD8.out.four
                by_cases h9 : (r : Int) < want
                · go_wp2_with fail
                  go_ret
                  exact ⟨rfl, HBZ.out ▸ HB8.out⟩
                · have HWW : Hid (wholeT (restT h l al ld want) l al want = true) := by
                    show wholeT (restT h l al ld want) l al want = true
                    rw [HW2.out]
                    simp
                    omega
                  go_wp2_with fail
                  refine (whole_any c0 c1 c2 _ (restT h l al ld want) _ l _ al want w8 hrl (by omega) HR8.out (HN.out.below HB8.out (Nat.le_refl _)) (HA.out.below HB8.out (Nat.le_refl _))).mono ?_
                  rintro e w9 ⟨he, hb9⟩
                  rw [HWW.out] at he
                  subst he
                  have HB9 := Lib.hid (below_then HB8.out hb9)
                  clear hb9
                  go_wp2_with fail
                  go_ret
                  exact ⟨rfl, HBZ.out ▸ HB9.out⟩
              · rw [HMN.out.2 h4] at HW2
                go_wp2_with fail
                refine (racks_any _ _ l gg w7 (by omega) (by rw [HGM.out]; omega) (HN.out.below HB7.out (Nat.le_refl _)) (by rw [HGM.out]; exact HG7.out)).mono ?_
                rintro e w8 ⟨rfl, hb8⟩
                have HB8 := Lib.hid (below_then HB7.out hb8)
                have HD8 := Lib.hid (HD7.out.below' hb8)
                have HR8 := Lib.hid (HR7.out.below hb8 (Nat.le_refl _))
                obtain ⟨r, hr⟩ : ∃ r, racksN l gg = r := ⟨_, rfl⟩
                rw [hr] at HW2 ⊢
                clear hb8 hr p0 p1 p2 p3 HD7 HR7
                obtain ⟨p0, p1, p2, p3⟩ := HD8.out.four
                by_cases h9 : (r : Int) < 2
                · go_wp2_with fail
                  go_ret
                  exact ⟨rfl, HBZ.out ▸ HB8.out⟩
                · have HWW : Hid (wholeT (restT h l al ld want) l al want = true) := by
                    show wholeT (restT h l al ld want) l al want = true
                    rw [HW2.out]
                    simp
                    omega
                  go_wp2_with fail
                  refine (whole_any c0 c1 c2 _ (restT h l al ld want) _ l _ al want w8 hrl (by omega) HR8.out (HN.out.below HB8.out (Nat.le_refl _)) (HA.out.below HB8.out (Nat.le_refl _))).mono ?_
                  rintro e w9 ⟨he, hb9⟩
                  rw [HWW.out] at he
                  subst he
                  have HB9 := Lib.hid (below_then HB8.out hb9)
                  clear hb9
                  go_wp2_with fail
                  go_ret
                  exact ⟨rfl, HBZ.out ▸ HB9.out⟩
      | some xx =>
        simp only [Option.isSome_some]
        have hwn : wholeT h l al want = false := by
          cases e : wholeT h l al want with
          | false => rfl
          | true => have := whole_none (ld := ld) e; rw [HO.out] at this; cases this
        have HWN := Lib.hid hwn
        clear hwn
        go_wp2_with fail
        refine (whole_any c0 c1 c2 _ h _ l _ al want w3' (by omega) (by omega) (HH.out.below HB3'.out (Nat.le_refl _)) (HN.out.below HB3'.out (Nat.le_refl _)) (HA.out.below HB3'.out (Nat.le_refl _))).mono ?_
        rintro e w3 ⟨he, hb3⟩
        rw [HWN.out] at he
        subst he
        have HB3 := Lib.hid (below_then HB3'.out hb3)
        have HC3 := Lib.hid (HC3'.out.below' hb3)
        clear hb3 q0 q1 q2 q3 HB3' HC3'
        obtain ⟨q0, q1, q2, q3⟩ := HC3.out.four
        obtain ⟨t0, t1, t2, t3⟩ := (HC3.out.alloc (.cells #[.int .i64 c0, .int .i64 c1, .int .u32 c2, .slice A h.length cap] 39)).four
        go_wp2_with fail
        have hal := below_one w3 (.cells #[.int .i64 c0, .int .i64 c1, .int .u32 c2, .slice A h.length cap] 39)
        have hbd := Bx.new w3 39 [.int .i64 c0, .int .i64 c1, .int .u32 c2, .slice A h.length cap]
        change Bx (w3.alloc (.cells #[.int .i64 c0, .int .i64 c1, .int .u32 c2, .slice A h.length cap] 39)) _ _ _ at hbd
        generalize (w3.alloc (.cells #[.int .i64 c0, .int .i64 c1, .int .u32 c2, .slice A h.length cap] 39)) = w4 at *
        have HB4 := Lib.hid (below_then HB3.out hal)
        have HC4 := Lib.hid (HC3.out.below' hal)
        have HD4 := Lib.hid hbd
        have hw34 : W.heap.size ≤ w3.heap.size := HB3.out.size
        have hbb : B < w3.heap.size := HC3.out.lt
        obtain ⟨BD, hBD⟩ : ∃ BD, w3.heap.size = BD := ⟨_, rfl⟩
        rw [hBD] at HD4 hw34 hbb ⊢
        have hlt4 : BD < w4.heap.size := HD4.out.lt
        clear hal hbd hBD q0 q1 q2 q3 t0 t1 t2 t3 HC3 HB3
        refine (all_any c0 c1 c2 _ h _ l _ al _ ld want w4 HND.out (by omega) (by omega) (HH.out.below HB4.out (Nat.le_refl _)) (HN.out.below HB4.out (Nat.le_refl _)) (HA.out.below HB4.out (Nat.le_refl _)) (HD.out.below HB4.out (Nat.le_refl _))).mono ?_
        rintro e w5 ⟨v5, rfl, ho5, hb5⟩
        obtain ⟨A5, cap5, e5⟩ := ho5.slice_
        subst e5
        have HAT : Hid (∀ k, k < (goneT h l al ld want).length → at_ (goneT h l al ld want) k ∈ ((goneT h l al ld want).take k).foldl woL h) := fun k hk => (gone_there h k hk).1
        have HRE : Hid ((goneT h l al ld want).foldl woL h = restT h l al ld want) := Lib.hid rfl
        have HLN : Hid ((restT h l al ld want).length + (goneT h l al ld want).length = h.length) := gone_len (G := gB l al) (I := iB l al) (bt := btB l ld) (want := want) h HND.out
        have hgl : (goneT h l al ld want).length ≤ h.length := by have := HLN.out; omega
        have HRG : Hid (want ≤ (goodL h l al).length → ((goodL (restT h l al ld want) l al).length : Int) = want ∧ (idlL (restT h l al ld want) l al).length = 0) := fun h6 => by
          rw [goodL_eq] at h6 ⊢
          have := rest_good (G := gB l al) (I := iB l al) (bt := btB l ld) (iB_dis l al) (by omega : 1 ≤ want) h HND.out h6
          exact ⟨this.1, by unfold idlL; exact congrArg List.length this.2⟩
        have HFW : Hid (((goodL h l al).length : Int) < want → restT h l al ld want = h) := fun h5 => by
          rw [goodL_eq] at h5
          exact restL_none (excL_few (.inr h5))
        obtain ⟨gone, hgo⟩ : ∃ g, goneT h l al ld want = g := ⟨_, rfl⟩
        rw [hgo] at ho5 HAT HRE hgl ⊢
        obtain ⟨n, hn⟩ : ∃ n, gone.length = n := ⟨_, rfl⟩
        rw [hn] at ho5 hgl ⊢
        have HGL := Lib.hid hn
        have HGO := Lib.hid ho5
        have HB5 := Lib.hid (below_then HB4.out hb5)
        have HC5 := Lib.hid (HC4.out.below' hb5)
        have HD5 := Lib.hid (HD4.out.below' hb5)
        have hs5 := hb5.size
        have hn63 : n ≤ 9223372036854775807 := by omega
        clear hn hgo ho5 hb5 HC4 HD4
        go_wp2_with fail
        have HBB : Hid (B < BD) := Lib.hid hbb
        go_loopw [17] (DRl c0 c1 c2 h gone w5 BD) (fun s17 _ => n - (intOf s17).toNat)
        case atStart => exact ⟨0, h, .slice A h.length cap, rfl, by omega, rfl, Nat.le_refl _, HD5.out, HH.out.below HB5.out (Nat.le_refl _), fun g off c e h0 => by
            obtain ⟨b, off', cap', hv, _, _, hlt, _⟩ := HH.out.form h0
            rw [e] at hv
            injection hv with e1 e2 e3
            injection e1 with e1
            injection e1 with e4 e5
            subst e4
            omega, Fr.refl _ _⟩
        case round =>
          obtain ⟨k, hs, vd', rfl, hk, hhs, hhl, hbd, hrd, hsep, hfr⟩ := hrel
          obtain ⟨Ah, caph, eh, _, hcp⟩ := hrd.shape
          subst eh
          rw [HGL.out] at hk
          have HBD := Lib.hid hbd
          have HRD := Lib.hid hrd
          have HSEP := Lib.hid hsep
          have HFR := Lib.hid hfr
          have HHS := Lib.hid hhs
          have hsw := hfr.size
          obtain ⟨p0, p1, p2, p3⟩ := hbd.four
          clear hbd hrd hsep hfr hhs
          by_cases hlt : k < n
          · have hltI : (k : Int) < (n : Int) := by omega
            have hG1 := (HGO.out.fr HFR.out (fun g hg e => by have := (HGO.out.blk_lt hg).1; have e' : g = BD := e; omega)).rd
            obtain ⟨bg, og, e1, hbgl⟩ := hG1.addr (by omega)
            subst e1
            have g0 := rd_int hG1 k (by rw [HGL.out]; exact hlt)
            have hst := DRl_step (h := h) (k := k) (by rw [HGL.out]; exact hlt) HHS.out
            have hat := HAT.out k (by rw [HGL.out]; exact hlt)
            rw [HHS.out] at hat
            obtain ⟨z, hz⟩ : ∃ z, at_ gone k = z := ⟨_, rfl⟩
            rw [hz] at g0 hst hat
            have HST := Lib.hid hst
            have HZ := Lib.hid hat
            have HAZ := Lib.hid hz
            have HBR := Lib.hid (HB5.out.trans (HFR.out.below (B := W.heap.size) (by have := HB5.out.size; omega) (fun q hq => by have e' : q = BD := hq; omega)))
            clear hst hat hz hG1
            go_wp2_with fail
            refine wp_region_quiet_tail (C := fun w' => ∃ n, w' = World.drewN _ n) 5 (by kernel_rfl) (by kernel_rfl) ⟨1, rfl⟩ ?_
            simp only [List.take_succ_cons, List.take_zero, List.drop_succ_cons, List.drop_zero]
            repeat (go_big_quiet_step (fail))
            refine wpQuiet_nil ?_
            intro _ hw'
            obtain ⟨nq, hw''⟩ := hw'
            subst hw''
            have BD6 := Lib.hid ((HBD.out : Bx wr BD 39 _).drewN nq)
            have RD6 := Lib.hid ((HRD.out : Rd wr 1 _ _ _).drewN nq)
            have HF6 := Lib.hid ((HFR.out : Fr (fun k => k = BD) w5 wr).thenDrewN nq)
            clear p0 p1 p2 p3 g0 HBD HRD HFR
            generalize wr.drewN nq = w6 at *
            go_wp2_with fail
            refine (rwo_any c0 c1 c2 _ hs z w6 (by omega) RD6.out).mono ?_
            rintro e w7 ⟨v7, rfl, ho7, hb7⟩
            obtain ⟨A7, cap7, e7⟩ := ho7.slice_
            subst e7
            have HO7 := Lib.hid ho7
            have BD7 := Lib.hid (BD6.out.below' hb7)
            have hbd6 := BD6.out.lt
            have HF7 := Lib.hid (HF6.out.thenBelow hb7)
            clear ho7 hb7
            go_wp2_with (with_reducible refine wpList_store_box rfl 39 _ _ rfl BD 39 _ [.int .i64 c0, .int .i64 c1, .int .u32 c2, .slice A7 (woL hs z).length cap7] rfl BD7.out rfl rfl ?hk ?hl ?hm)
            case hk => kernel_rfl
            case hl => simp [Value.oneCell']
            case hm =>
              intro w8 hbx8 hfr8
              have HX8 := Lib.hid hbx8
              have HF8 := Lib.hid hfr8
              clear hbx8 hfr8
              go_wp2_with fail
              go_roundw
              case rel =>
                refine ⟨k + 1, woL hs z, .slice A7 (woL hs z).length cap7, by go_num, by have := HGL.out; omega, HST.out, Nat.le_trans (List.length_filter_le _ _) hhl, HX8.out, (HO7.out.fr HF8.out (fun g hg e => by have := (HO7.out.blk_lt hg).1; have e' : g = BD := e; omega)).rd, fun g off c e h0 => ?_, HF7.out.trans HF8.out (fun _ h => .inl h)⟩
                obtain ⟨g', off', cap', hv, _, _, hb', _, _⟩ := HO7.out.form h0
                rw [e] at hv
                injection hv with e1 e2 e3
                injection e1 with e1
                injection e1 with e4 e5
                subst e4
                omega
              case measure => simp [intOf]; omega
          · obtain rfl : k = n := by omega
            have hre : hs = restT h l al ld want := by rw [← HRE.out, ← HHS.out, ← HGL.out, List.take_length]
            subst hre
            have HB6 := Lib.hid (HB5.out.trans (HFR.out.below (B := W.heap.size) (by have := HB5.out.size; omega) (fun q hq => by have e' : q = BD := hq; omega)))
            have hrl : (restT h l al ld want).length ≤ 1000 := by omega
            go_wp2_with fail
            refine (good_any c0 c1 c2 _ (restT h l al ld want) _ l _ al wr hrl (by omega) HRD.out (HN.out.below HB6.out (Nat.le_refl _)) (HA.out.below HB6.out (Nat.le_refl _))).mono ?_
            rintro e w7 ⟨v7, rfl, ho7, hb7⟩
            obtain ⟨A7, cap7, e7⟩ := ho7.slice_
            subst e7
            have HB7 := Lib.hid (below_then HB6.out hb7)
            have HD7 := Lib.hid (HBD.out.below' hb7)
            have HR7 := Lib.hid (HRD.out.below hb7 (Nat.le_refl _))
            have HG7 := Lib.hid ho7.rd
            have hml := goodL_len (restT h l al ld want) l al
            have hwt : wholeT (restT h l al ld want) l al want = (decide (((goodL (restT h l al ld want) l al).length : Int) = want) && decide ((idlL (restT h l al ld want) l al).length = 0) && decide (mn2 want ≤ (racksN l (goodL (restT h l al ld want) l al) : Int))) := rfl
            have HWT := Lib.hid hwt
            have hgh := goodL_len h l al
            have HFG : Hid (((goodL h l al).length : Int) < want → ((goodL (restT h l al ld want) l al).length : Int) < want) := fun h5 => by rw [HFW.out h5]; exact h5
            clear ho7 hb7 p0 p1 p2 p3 HBD HRD hwt
            obtain ⟨p0, p1, p2, p3⟩ := HD7.out.four
            obtain ⟨gg, hgg⟩ : ∃ n, goodL (restT h l al ld want) l al = n := ⟨_, rfl⟩
            rw [hgg] at HRG hml HG7 HWT HFG ⊢
            obtain ⟨m, hm⟩ : ∃ n, gg.length = n := ⟨_, rfl⟩
            rw [hm] at HRG hml HWT HFG HG7 ⊢
            have HGM := Lib.hid hm
            have hm63 : m ≤ 9223372036854775807 := by omega
            clear hgg hm
            by_cases h5 : (m : Int) < want
            · by_cases h4 : want < 2
              · go_wp2_with fail
                go_ret
                exact ⟨rfl, HBZ.out ▸ HB7.out⟩
              · go_wp2_with fail
                go_ret
                exact ⟨rfl, HBZ.out ▸ HB7.out⟩
            · have h6 : want ≤ ((goodL h l al).length : Int) := by
                rcases Int.lt_or_le ((goodL h l al).length : Int) want with h7 | h7
                · exact absurd (HFG.out h7) h5
                · exact h7
              obtain ⟨h7, h8⟩ := HRG.out h6
              have HW2 := HWT
              rw [decide_eq_true h7, decide_eq_true h8] at HW2
              clear h6 h7 h8 HWT
              have hmn : (want < 2 → mn2 want = want) ∧ (¬ want < 2 → mn2 want = 2) := ⟨fun h => by unfold mn2; rw [if_pos h], fun h => by unfold mn2; rw [if_neg h]⟩
              obtain ⟨q, hq⟩ : ∃ q, mn2 want = q := ⟨_, rfl⟩
              rw [hq] at hmn HW2
              have HMN := Lib.hid hmn
              clear hmn hq
              by_cases h4 : want < 2
              · rw [HMN.out.1 h4] at HW2
                go_wp2_with fail
                refine (racks_any _ _ l gg w7 (by omega) (by rw [HGM.out]; omega) (HN.out.below HB7.out (Nat.le_refl _)) (by rw [HGM.out]; exact HG7.out)).mono ?_
                rintro e w8 ⟨rfl, hb8⟩
                have HB8 := Lib.hid (below_then HB7.out hb8)
                have HD8 := Lib.hid (HD7.out.below' hb8)
                have HR8 := Lib.hid (HR7.out.below hb8 (Nat.le_refl _))
                obtain ⟨r, hr⟩ : ∃ r, racksN l gg = r := ⟨_, rfl⟩
                rw [hr] at HW2 ⊢
                clear hb8 hr p0 p1 p2 p3 HD7 HR7
                obtain ⟨p0, p1, p2, p3⟩ := HD8.out.four
                by_cases h9 : (r : Int) < want
                · go_wp2_with fail
                  go_ret
                  exact ⟨rfl, HBZ.out ▸ HB8.out⟩
                · have HWW : Hid (wholeT (restT h l al ld want) l al want = true) := by
                    show wholeT (restT h l al ld want) l al want = true
                    rw [HW2.out]
                    simp
                    omega
                  go_wp2_with fail
                  refine (whole_any c0 c1 c2 _ (restT h l al ld want) _ l _ al want w8 hrl (by omega) HR8.out (HN.out.below HB8.out (Nat.le_refl _)) (HA.out.below HB8.out (Nat.le_refl _))).mono ?_
                  rintro e w9 ⟨he, hb9⟩
                  rw [HWW.out] at he
                  subst he
                  have HB9 := Lib.hid (below_then HB8.out hb9)
                  clear hb9
                  go_wp2_with fail
                  go_ret
                  exact ⟨rfl, HBZ.out ▸ HB9.out⟩
              · rw [HMN.out.2 h4] at HW2
                go_wp2_with fail
                refine (racks_any _ _ l gg w7 (by omega) (by rw [HGM.out]; omega) (HN.out.below HB7.out (Nat.le_refl _)) (by rw [HGM.out]; exact HG7.out)).mono ?_
                rintro e w8 ⟨rfl, hb8⟩
                have HB8 := Lib.hid (below_then HB7.out hb8)
                have HD8 := Lib.hid (HD7.out.below' hb8)
                have HR8 := Lib.hid (HR7.out.below hb8 (Nat.le_refl _))
                obtain ⟨r, hr⟩ : ∃ r, racksN l gg = r := ⟨_, rfl⟩
                rw [hr] at HW2 ⊢
                clear hb8 hr p0 p1 p2 p3 HD7 HR7
                obtain ⟨p0, p1, p2, p3⟩ := HD8.out.four
                by_cases h9 : (r : Int) < 2
                · go_wp2_with fail
                  go_ret
                  exact ⟨rfl, HBZ.out ▸ HB8.out⟩
                · have HWW : Hid (wholeT (restT h l al ld want) l al want = true) := by
                    show wholeT (restT h l al ld want) l al want = true
                    rw [HW2.out]
                    simp
                    omega
                  go_wp2_with fail
                  refine (whole_any c0 c1 c2 _ (restT h l al ld want) _ l _ al want w8 hrl (by omega) HR8.out (HN.out.below HB8.out (Nat.le_refl _)) (HA.out.below HB8.out (Nat.le_refl _))).mono ?_
                  rintro e w9 ⟨he, hb9⟩
                  rw [HWW.out] at he
                  subst he
                  have HB9 := Lib.hid (below_then HB8.out hb9)
                  clear hb9
                  go_wp2_with fail
                  go_ret
                  exact ⟨rfl, HBZ.out ▸ HB9.out⟩

end Go.Proofs.Ytflndnbjdhbppaa

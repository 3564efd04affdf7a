/- TrimIdle: the walk. -/
import Derived.Test.YtflndnbjdhbppaaRef19B
import Derived.Test.YtflndnbjdhbppaaAwake19
import Derived.Test.YtflndnbjdhbppaaTable
import Derived.Test.YtflndnbjdhbppaaBase2
namespace Go.Proofs.Ytflndnbjdhbppaa
open Go Go.RowKit Go.Sort

theorem good_has {h : List Int} {l : List Nq} {al : List Int} {z : Int} (hz : z ∈ h) : hasB (goodL h l al) z = gB l al z := by
  rw [goodL_eq, Bool.eq_iff_iff, hasB_iff, List.mem_filter]
  exact ⟨fun h => h.2, fun h => ⟨hz, h⟩⟩
theorem idle_went {h : List Int} {l : List Nq} {al : List Int} {ld : List Ld} {want : Int} {x : Int} (hd : h.Nodup) (hw : 1 ≤ want) (hg : want ≤ (goodL h l al).length) (hx : x ∈ h) (hi : iB l al x = true) : hasB (goneT h l al ld want) x = true := by
  rw [goodL_eq] at hg
  rw [hasB_iff]
  rcases gone_or_rest (G := gB l al) (I := iB l al) (bt := btB l ld) (want := want) h hx with h1 | h1
  · exact h1
  · have h2 := (rest_good (G := gB l al) (I := iB l al) (bt := btB l ld) (iB_dis l al) hw h hd hg).2
    have : x ∈ (restL (gB l al) (iB l al) (btB l ld) want h).filter (iB l al) := List.mem_filter.2 ⟨h1, hi⟩
    rw [h2] at this
    simp at this

set_option maxHeartbeats 4000000 in
set_option maxRecDepth 100000 in
theorem trimIdle_walk (c0 c1 c2 : Int) (vh : Value) (h : List Int) (vn : Value) (l : List Nq) (va : Value) (al : List Int) (vd : Value) (ld : List Ld) (want : Int) (W : World) (hH : Rd W 1 vh h.length (h.flatMap inC)) (hN : Rd W 4 vn l.length (l.flatMap noC)) (hA : Rd W 1 va al.length (al.flatMap inC)) (hD : Rd W 2 vd ld.length (ld.flatMap ldC)) :
    Calls Try.prog 10 #[.agg #[.int .i64 c0, .int .i64 c1, .int .u32 c2, vh], vn, va, vd, .int .i64 want] W fun e w' => e = .returned (.bool true) ∧ Below W.heap.size W w' := by
  obtain ⟨A, cap, hv, _, _⟩ := hH.shape
  subst hv
  obtain ⟨An, capn, hv, _, _⟩ := hN.shape
  subst hv
  obtain ⟨Aa, capa, hv, _, _⟩ := hA.shape
  subst hv
  obtain ⟨Ad, capd, hv, _, _⟩ := hD.shape
  subst hv
  have HH := Lib.hid hH
  have HN := Lib.hid hN
  have HA := Lib.hid hA
  have HD := Lib.hid hD
  clear hH hA hN hD
  go_enter Try.func10, Try.ntmps10
  go_wp2_with fail
  have hal := below_one W (.cells #[.int .i64 c0, .int .i64 c1, .int .u32 c2, .slice A h.length cap] 39)
  have hbc := Bx.new W 39 [.int .i64 c0, .int .i64 c1, .int .u32 c2, .slice A h.length cap]
  change Bx (W.alloc (.cells #[.int .i64 c0, .int .i64 c1, .int .u32 c2, .slice A h.length cap] 39)) _ _ _ at hbc
  generalize (W.alloc (.cells #[.int .i64 c0, .int .i64 c1, .int .u32 c2, .slice A h.length cap] 39)) = w0 at *
  refine (awake19 w0).mono ?_
  rintro e w1 ⟨rfl, hb1⟩
  have HB1 := Lib.hid (below_then hal hb1)
  have HC1 := Lib.hid (hbc.below' hb1)
  obtain ⟨B, hB⟩ : ∃ B, W.heap.size = B := ⟨_, rfl⟩
  have HBZ := Lib.hid hB
  rw [hB] at HC1 ⊢
  clear hal hbc hb1 hB
  obtain ⟨q0, q1, q2, q3⟩ := HC1.out.four
  go_wp2_with fail
  refine (few19 c0 c1 c2 _ _ _ _ h l al ld w1 (HH.out.below HB1.out (Nat.le_refl _)) (HN.out.below HB1.out (Nat.le_refl _)) (HA.out.below HB1.out (Nat.le_refl _)) (HD.out.below HB1.out (Nat.le_refl _))).mono ?_
  rintro e w2 ⟨b, rfl, hf, hb2⟩
  have HB2 := Lib.hid (below_then HB1.out hb2)
  have HC2 := Lib.hid (HC1.out.below' hb2)
  clear hb2 q0 q1 q2 q3 HC1 HB1
  cases b with
  | false =>
    clear hf
    go_wp2_with fail
    go_ret
    exact ⟨rfl, HBZ.out ▸ HB2.out⟩
  | true =>
    obtain ⟨h1, h2, h3, h4⟩ := hf rfl
    obtain ⟨q0, q1, q2, q3⟩ := HC2.out.four
    clear hf
    go_wp2_with fail
    have hal := below_one w2 (.cells #[.int .i64 c0, .int .i64 c1, .int .u32 c2, .slice A h.length cap] 39)
    refine (tmay_any c0 c1 c2 _ h w2.heap.size _ (Bx.new w2 39 [.int .i64 c0, .int .i64 c1, .int .u32 c2, .slice A h.length cap]) ((HH.out.below HB2.out (Nat.le_refl _)).below hal (Nat.le_refl _))).mono ?_
    rintro e w3 ⟨b, rfl, hris, hb3⟩
    have HB3 := Lib.hid (below_then (below_then HB2.out hal) hb3)
    have HC3 := Lib.hid ((HC2.out.below' hal).below' hb3)
    clear hb3 hal q0 q1 q2 q3 HC2 HB2
    cases b with
    | false =>
      clear hris
      go_wp2_with fail
      go_ret
      exact ⟨rfl, HBZ.out ▸ HB3.out⟩
    | true =>
      have HRI := Lib.hid (hris rfl)
      have HND := Lib.hid HRI.out.nodup
      clear hris
      obtain ⟨q0, q1, q2, q3⟩ := HC3.out.four
      by_cases hw : want < 1
      · go_wp2_with fail
        go_ret
        exact ⟨rfl, HBZ.out ▸ HB3.out⟩
      go_wp2_with fail
      refine (good_any c0 c1 c2 _ h _ l _ al w3 (by omega) (by omega) (HH.out.below HB3.out (Nat.le_refl _)) (HN.out.below HB3.out (Nat.le_refl _)) (HA.out.below HB3.out (Nat.le_refl _))).mono ?_
      rintro e w4 ⟨v4, rfl, ho4, hb4⟩
      obtain ⟨A4, cap4, e4⟩ := ho4.slice_
      subst e4
      have HGI : Hid (want ≤ (goodL h l al).length → ∀ x ∈ h, iB l al x = true → hasB (goneT h l al ld want) x = true) := fun h5 x hx hi => idle_went HND.out (by omega) h5 hx hi
      have HGH : Hid (∀ z ∈ h, hasB (goodL h l al) z = gB l al z) := fun z hz => good_has hz
      obtain ⟨g, hgg⟩ : ∃ g, goodL h l al = g := ⟨_, rfl⟩
      have hngl := goodL_len h l al
      rw [hgg] at ho4 HGI HGH hngl ⊢
      obtain ⟨ng, hng⟩ : ∃ n, g.length = n := ⟨_, rfl⟩
      rw [hng] at ho4 HGI hngl ⊢
      have HNG := Lib.hid hng
      have HG4 := Lib.hid ho4.rd
      have HB4 := Lib.hid (below_then HB3.out hb4)
      have HC4 := Lib.hid (HC3.out.below' hb4)
      clear ho4 hb4 hng hgg q0 q1 q2 q3 HC3 HB3
      obtain ⟨q0, q1, q2, q3⟩ := HC4.out.four
      by_cases h5 : (ng : Int) < want
      · go_wp2_with fail
        go_ret
        exact ⟨rfl, HBZ.out ▸ HB4.out⟩
      have HGJ := Lib.hid (HGI.out (by omega))
      clear HGI
      go_wp2_with fail
      refine (all_any c0 c1 c2 _ h _ l _ al _ ld want w4 HND.out (by omega) (by omega) (HH.out.below HB4.out (Nat.le_refl _)) (HN.out.below HB4.out (Nat.le_refl _)) (HA.out.below HB4.out (Nat.le_refl _)) (HD.out.below HB4.out (Nat.le_refl _))).mono ?_
      rintro e w5 ⟨v5, rfl, ho5, hb5⟩
      obtain ⟨A5, cap5, e5⟩ := ho5.slice_
      subst e5
      have HFI : Hid (∀ i, i + 1 < (goneT h l al ld want).length → gB l al (at_ (goneT h l al ld want) i) = true → gB l al (at_ (goneT h l al ld want) (i + 1)) = true) := gone_idle_first (G := gB l al) (I := iB l al) (bt := btB l ld) (want := want) (iB_dis l al) h
      have HGM : Hid (∀ z ∈ goneT h l al ld want, z ∈ h) := fun z hz => (gone_mem h hz).1
      have hgl : (goneT h l al ld want).length ≤ h.length := by have := gone_len (G := gB l al) (I := iB l al) (bt := btB l ld) (want := want) h HND.out; unfold goneT; omega
      obtain ⟨gone, hgo⟩ : ∃ g, goneT h l al ld want = g := ⟨_, rfl⟩
      rw [hgo] at ho5 HFI HGM hgl HGJ ⊢
      obtain ⟨n, hn⟩ : ∃ n, gone.length = n := ⟨_, rfl⟩
      rw [hn] at ho5 hgl ⊢
      have HGL := Lib.hid hn
      have HR5 := Lib.hid ho5.rd
      have HG5 := Lib.hid (HG4.out.below hb5 (Nat.le_refl _))
      have HB5 := Lib.hid (below_then HB4.out hb5)
      have HC5 := Lib.hid (HC4.out.below' hb5)
      have hn63 : n ≤ 9223372036854775807 := by omega
      clear hn hgo ho5 hb5 HC4 HG4 q0 q1 q2 q3
      go_wp2_with fail
      go_loopw [15, 16] (fun s15 s16 wr => ∃ (k : Nat) (sv : Bool), k ≤ n ∧ s16 = .int .i64 k ∧ s15 = .bool sv ∧ (sv = true → 0 < k ∧ gB l al (at_ gone (k - 1)) = true) ∧ Below w5.heap.size w5 wr) (fun _ s16 _ => n - (intOf s16).toNat)
      case atStart => exact ⟨0, false, by omega, rfl, rfl, fun h => (by cases h), Below.refl _ _⟩
      case round =>
        obtain ⟨k, sv, hk, rfl, rfl, hsv, hbel⟩ := hrel
        have HSV := Lib.hid hsv
        have HBL := Lib.hid hbel
        have hsr := hbel.size
        clear hsv hbel
        by_cases hlt : k < n
        · have hltI : (k : Int) < (n : Int) := by omega
          have hG1 := HR5.out.below HBL.out (Nat.le_refl _)
          obtain ⟨bg, og, e1, hbgl⟩ := hG1.addr (by omega)
          subst e1
          have g0 := rd_int hG1 k (by rw [HGL.out]; exact hlt)
          have hzg : at_ gone k ∈ gone := at_mem (by rw [HGL.out]; exact hlt)
          have hgh := HGH.out _ (HGM.out _ hzg)
          have hfi : sv = true → gB l al (at_ gone k) = true := fun h6 => by
            obtain ⟨h7, h8⟩ := HSV.out h6
            have := HFI.out (k - 1) (by rw [HGL.out]; omega) h8
            rw [show k - 1 + 1 = k by omega] at this
            exact this
          obtain ⟨z, hz⟩ : ∃ z, at_ gone k = z := ⟨_, rfl⟩
          rw [hz] at g0 hgh hfi
          have HZ := Lib.hid hz
          have HGHZ := Lib.hid hgh
          have HFIZ := Lib.hid hfi
          clear hz hgh hfi hzg hG1
          go_wp2_with fail
          refine (rhas_in _ g z wr (by rw [HNG.out]; exact HG5.out.below HBL.out (Nat.le_refl _))).mono ?_
          rintro e w6 ⟨rfl, rfl⟩
          rw [HGHZ.out]
          obtain ⟨b, hb⟩ : ∃ b, gB l al z = b := ⟨_, rfl⟩
          rw [hb] at HFIZ ⊢
          have HBZ2 := Lib.hid hb
          clear hb g0
          cases sv with
          | false =>
            go_wp2_with fail
            go_roundw
            case rel => exact ⟨k + 1, b, by omega, by go_num, rfl, fun h6 => ⟨by omega, by rw [Nat.add_sub_cancel, HZ.out, HBZ2.out]; exact h6⟩, HBL.out⟩
            case measure => simp [intOf]; omega
          | true =>
            obtain rfl := HFIZ.out rfl
            go_wp2_with fail
            go_roundw
            case rel => exact ⟨k + 1, true, by omega, by go_num, rfl, fun h6 => ⟨by omega, by rw [Nat.add_sub_cancel, HZ.out, HBZ2.out]⟩, HBL.out⟩
            case measure => simp [intOf]; omega
        · obtain rfl : k = n := by omega
          have HB6 := Lib.hid (HB5.out.trans (HBL.out.mono HB5.out.size))
          have HC6 := Lib.hid (HC5.out.below' HBL.out)
          have HR6 := Lib.hid (HR5.out.below HBL.out (Nat.le_refl _))
          have hbl := HC6.out.lt
          clear HC5 HR5 HG5 HBL HB5 HSV hsr
          have hnn : h.length ≤ 9223372036854775807 := by omega
          go_wp2_with fail
          go_loopw [18] (fun s18 wi => ∃ j : Nat, j ≤ h.length ∧ s18 = .int .i64 j ∧ Below W.heap.size W wi ∧ Bx wi B 39 [.int .i64 c0, .int .i64 c1, .int .u32 c2, .slice A h.length cap] ∧ Rd wi 1 (.slice A5 k cap5) k (gone.flatMap inC)) (fun s18 _ => h.length - (intOf s18).toNat)
          case atStart => exact ⟨0, by omega, rfl, HB6.out, HC6.out, HR6.out⟩
          case round =>
            obtain ⟨j, hj, rfl, hbel, hbx, hrg⟩ := hrel
            have HBI := Lib.hid hbel
            have HCI := Lib.hid hbx
            have HRI5 := Lib.hid hrg
            have hsi := hbel.size
            obtain ⟨q0, q1, q2, q3⟩ := hbx.four
            clear hbel hbx hrg HB6 HC6 HR6
            by_cases hjt : j < h.length
            · have hjI : (j : Int) < (h.length : Int) := by omega
              have hH1 := HH.out.below HBI.out (Nat.le_refl _)
              obtain ⟨bh, oh, e1, hbhl⟩ := hH1.addr (by omega)
              subst e1
              have y0 := rd_int hH1 j hjt
              have hxm := at_mem hjt
              obtain ⟨x, hx⟩ : ∃ x, at_ h j = x := ⟨_, rfl⟩
              rw [hx] at y0 hxm
              have HXM := Lib.hid hxm
              clear hx hxm hH1
              go_wp2_with fail
              refine (find_any _ l x wr (by omega) (HN.out.below HBI.out (Nat.le_refl _))).mono ?_
              rintro e w7 ⟨rfl, hb7⟩
              obtain ⟨o, ho⟩ : ∃ o, findL l x = o := ⟨_, rfl⟩
              rw [ho]
              have HO := Lib.hid ho
              have y1 := (hb7.cell (p := ⟨bh, oh + j, none⟩) (by show bh < wr.heap.size; omega)).trans y0
              have HB7 := Lib.hid (HBI.out.trans (hb7.mono hsi))
              have HC7 := Lib.hid (HCI.out.below' hb7)
              have HR7 := Lib.hid (HRI5.out.below hb7 (Nat.le_refl _))
              clear ho hb7 y0 q0 q1 q2 q3
              have hag : ∃ a b c d, noV (optN o) = .agg #[.int .i64 a, .int .i64 b, .int .i64 c, .int .i64 d] ∧ (∀ y, o = some y → d = y.2.2.2) := by
                cases o with
                | none => exact ⟨0, 0, 0, 0, rfl, fun y h => by cases h⟩
                | some y => exact ⟨y.1, y.2.1, y.2.2.1, y.2.2.2, rfl, fun y' h => by cases h; rfl⟩
              obtain ⟨a, b, c, d, hag, hst⟩ := hag
              rw [hag]
              have HST := Lib.hid hst
              obtain ⟨th, hth⟩ : ∃ t, o.isSome = t := ⟨_, rfl⟩
              rw [hth]
              have HTH := Lib.hid hth
              have HB8 := Lib.hid (HB7.out.alloc (by have := HB7.out.size; omega) (.cells #[.int .i64 a, .int .i64 b, .int .i64 c, .int .i64 d] 58))
              have s3 := (Bx.new w7 58 [.int .i64 a, .int .i64 b, .int .i64 c, .int .i64 d]).cell 3
              simp only [List.getElem?_cons_succ, List.getElem?_cons_zero] at s3
              change (w7.alloc (.cells #[.int .i64 a, .int .i64 b, .int .i64 c, .int .i64 d] 58)).cell? _ = _ at s3
              have y2 := ((below_one w7 (.cells #[.int .i64 a, .int .i64 b, .int .i64 c, .int .i64 d] 58)).cell (block_lt_of_cell y1)).trans y1
              obtain ⟨q0, q1, q2, q3⟩ := (HC7.out.alloc (.cells #[.int .i64 a, .int .i64 b, .int .i64 c, .int .i64 d] 58)).four
              have HC8 := Lib.hid (HC7.out.alloc (.cells #[.int .i64 a, .int .i64 b, .int .i64 c, .int .i64 d] 58))
              have HR8 := Lib.hid (HR7.out.alloc (.cells #[.int .i64 a, .int .i64 b, .int .i64 c, .int .i64 d] 58))
              clear hag hst hth y1 HC7 HR7
              go_wp2_with fail
              generalize (w7.alloc (.cells #[.int .i64 a, .int .i64 b, .int .i64 c, .int .i64 d] 58)) = w8 at *
              refine (rhas_in _ al x w8 (HA.out.below HB8.out (Nat.le_refl _))).mono ?_
              rintro e w9 ⟨rfl, rfl⟩
              obtain ⟨lv, hlv⟩ : ∃ b, hasB al x = b := ⟨_, rfl⟩
              rw [hlv]
              have HLV := Lib.hid hlv
              clear hlv
              go_wp2_with fail
              refine (rhas_in _ gone x w8 (by rw [HGL.out]; exact HR8.out)).mono ?_
              rintro e w9 ⟨rfl, rfl⟩
              obtain ⟨we, hwe⟩ : ∃ b, hasB gone x = b := ⟨_, rfl⟩
              rw [hwe]
              have HWE := Lib.hid hwe
              clear hwe y2
              have HREL : Hid (∃ j' : Nat, j' ≤ h.length ∧ Value.int .i64 ((j : Int) + 1) = .int .i64 j' ∧ Below W.heap.size W w8 ∧ Bx w8 B 39 [.int .i64 c0, .int .i64 c1, .int .u32 c2, .slice (some ⟨bh, oh, none⟩) h.length cap] ∧ Rd w8 1 (.slice A5 k cap5) k (gone.flatMap inC)) := ⟨j + 1, by omega, by go_num, HB8.out, HC8.out, HR8.out⟩
              cases th with
              | false =>
                go_wp2_with fail
                go_roundw
                case rel => exact HREL.out
                case measure => simp [intOf]; omega
              | true =>
                cases lv with
                | false =>
                  go_wp2_with fail
                  go_roundw
                  case rel => exact HREL.out
                  case measure => simp [intOf]; omega
                | true =>
                  by_cases hd : d = 0
                  · subst hd
                    go_wp2_with fail
                    go_roundw
                    case rel => exact HREL.out
                    case measure => simp [intOf]; omega
                  · have hi : iB l al x = true := by
                      obtain ⟨y, rfl⟩ := Option.isSome_iff_exists.1 HTH.out
                      have h8 := HST.out y rfl
                      unfold iB idB
                      rw [HO.out, HLV.out]
                      simp
                      omega
                    have h9 := HGJ.out x HXM.out hi
                    rw [HWE.out] at h9
                    subst h9
                    have hd' : (d != 0) = true := by simpa using hd
                    clear hi hd
                    go_wp2_with fail
                    go_roundw
                    case rel => exact HREL.out
                    case measure => simp [intOf]; omega
            · obtain rfl : j = h.length := by omega
              go_wp2_with fail
              go_ret
              exact ⟨rfl, HBZ.out ▸ HBI.out⟩

end Go.Proofs.Ytflndnbjdhbppaa

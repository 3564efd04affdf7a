/- QueueGood: the walk. -/
import Derived.Test.YtflndnbjdhbppaaAwake17
import Derived.Test.YtflndnbjdhbppaaGood
namespace Go.Proofs.Ytflndnbjdhbppaa
open Go Go.RowKit

theorem sub_skip {x y : Int} {r t : List Int} (h : (x :: r).Sublist (y :: t)) (hne : y ≠ x) : (x :: r).Sublist t := by
  cases h with
  | cons _ h => exact h
  | cons_cons _ h => exact absurd rfl hne
theorem sub_hit {x : Int} {r t : List Int} (h : (x :: r).Sublist (x :: t)) : r.Sublist t := by
  cases h with
  | cons _ h => exact (List.sublist_cons_self x r).trans h
  | cons_cons _ h => exact h

set_option maxHeartbeats 1000000 in
theorem lost_one (c0 c1 c2 : Int) (vh : Value) (h : List Int) (b : Nat) (va : Value) (al : List Int) (w : World) (hl : h.length ≤ 1000) (hbx : Bx w b 39 [.int .i64 c0, .int .i64 c1, .int .u32 c2, vh]) (hH : Rd w 1 vh h.length (h.flatMap inC)) (hA : Rd w 1 va al.length (al.flatMap inC)) :
    Calls Try.prog 22 #[.slice (some ⟨b, 0, none⟩) 1 1, va] w fun e w' => ∃ A n cap, e = .returned (.slice A n cap) ∧ (livL h al ≠ [] → n = 0) ∧ Below w.heap.size w w' := by
  obtain ⟨ii, hii, hz0, hz1, hz2⟩ := info_parts info_in
  obtain ⟨q0, q1, q2, q3⟩ := hbx.four
  obtain ⟨Ah, caph, hvh, _, _⟩ := hH.shape
  subst hvh
  have HX := Lib.hid hbx
  have HH := Lib.hid hH
  have HA := Lib.hid hA
  clear hbx hH hA
  go_enter Try.func22, Try.ntmps22
  go_wp2_with fail
  refine wp_loop_rounds 2 ?_
  rw [rounds_succ]
  go_wp2_with fail
  have hal := below_one w (.cells #[.int .i64 c0, .int .i64 c1, .int .u32 c2, .slice Ah h.length caph] 39)
  refine (living_any c0 c1 c2 _ h va al _ hl (HH.out.below hal (Nat.le_refl _)) (HA.out.below hal (Nat.le_refl _))).mono ?_
  rintro e w2 ⟨v2, rfl, ho2, hb2⟩
  obtain ⟨A2, cap2, hv2⟩ := ho2.slice_
  subst hv2
  have HB2 := Lib.hid (below_then hal hb2)
  have HY2 := Lib.hid (((Bx.new w 39 [.int .i64 c0, .int .i64 c1, .int .u32 c2, .slice Ah h.length caph]).below' hb2))
  clear ho2 hb2 hal q0 q1 q2 q3
  obtain ⟨q0, _, _, _⟩ := HY2.out.four
  by_cases hn : livL h al = []
  · rw [hn]
    simp only [List.length_nil]
    go_wp2_with (at_builtin; refine wpList_append_seg rfl _ _ 37 rfl w2.heap.size 3 ii _ 1 8 (by kernel_rfl) hii hz0 hz1 hz2 rfl (by omega) (.slice none 0 0) 0 [] rfl (Own.nil_ _ _ _ _) (.slice (some ⟨w2.heap.size, 0, none⟩) 1 1) 1 (inC c0) rfl (rd_one (t := 3) (heap_alloc_new _ _) rfl) (by simp [inC, Value.oneCell']) (by unfold maxLen; omega) (by omega) (by simp) ?_; intro v4 w4 hown4 hfr4 hb4 _; obtain ⟨A4, cap4, hv4⟩ := hown4.slice_; subst hv4; have HF4 := Lib.hid (hfr4.below (B := w2.heap.size) (by simp) (fun k hk => by simp [blk] at hk)); clear hown4 hfr4 hb4)
    rw [rounds_succ]
    go_wp2_with fail
    go_ret
    exact ⟨_, _, _, rfl, fun h => absurd hn h, HB2.out.trans (((below_one w2 _).trans HF4.out).mono HB2.out.size)⟩
  · have hne : ((livL h al).length : Int) ≠ 0 := by
      have := List.length_pos_iff.2 hn
      omega
    have hne' : (((livL h al).length : Int) == 0) = false := by simpa using hne
    have HNE := Lib.hid hn
    clear hn
    generalize (livL h al).length = m at *
    clear hne
    go_wp2_with fail
    rw [rounds_succ]
    go_wp2_with fail
    go_ret
    exact ⟨_, _, _, rfl, fun _ => rfl, HB2.out⟩

set_option maxHeartbeats 4000000 in
set_option maxRecDepth 100000 in
theorem queueGood_walk (c0 c1 c2 : Int) (vh : Value) (h : List Int) (vn : Value) (l : List Nq) (va : Value) (al : List Int) (W : World) (hH : Rd W 1 vh h.length (h.flatMap inC)) (hR : Rd W 4 vn l.length (l.flatMap noC)) (hA : Rd W 1 va al.length (al.flatMap inC)) :
    Calls Try.prog 6 #[.agg #[.int .i64 c0, .int .i64 c1, .int .u32 c2, vh], vn, va] W fun e w' => e = .returned (.bool true) ∧ Below W.heap.size W w' := by
  obtain ⟨Ah, caph, hvh, hcaph, hnch⟩ := hH.shape
  obtain ⟨An, capn, hvn, hcapn, hncn⟩ := hR.shape
  obtain ⟨Aa, capa, hva, hcapa, hnca⟩ := hA.shape
  obtain ⟨nh, hnh⟩ : ∃ nh, h.length = nh := ⟨_, rfl⟩
  obtain ⟨nn, hnn⟩ : ∃ nn, l.length = nn := ⟨_, rfl⟩
  obtain ⟨na, hna⟩ : ∃ na, al.length = na := ⟨_, rfl⟩
  have HH := Lib.hid hH
  have HR := Lib.hid hR
  have HA := Lib.hid hA
  have HNH := Lib.hid hnh
  have HNN := Lib.hid hnn
  have HNA := Lib.hid hna
  rw [hnh] at hvh hnch
  rw [hnn] at hvn hncn
  rw [hna] at hva hnca
  subst hvh hvn hva
  clear hH hR hA hnh hnn hna
  go_enter Try.func6, Try.ntmps6
  go_wp2_with fail
  have hal := below_one W (.cells #[.int .i64 c0, .int .i64 c1, .int .u32 c2, .slice Ah nh caph] 39)
  have hbx := Bx.new W 39 [.int .i64 c0, .int .i64 c1, .int .u32 c2, .slice Ah nh caph]
  change Bx (W.alloc (.cells #[.int .i64 c0, .int .i64 c1, .int .u32 c2, .slice Ah nh caph] 39)) _ _ _ at hbx
  generalize W.alloc (.cells #[.int .i64 c0, .int .i64 c1, .int .u32 c2, .slice Ah nh caph] 39) = w0 at *
  refine (awake17 _).mono ?_
  rintro e w1 ⟨rfl, hb1⟩
  have HB1 := Lib.hid (below_then hal hb1)
  have HX1 := Lib.hid (hbx.below' hb1)
  obtain ⟨B, hB⟩ : ∃ B, W.heap.size = B := ⟨_, rfl⟩
  rw [hB] at HX1 ⊢
  clear hb1 hal hbx
  obtain ⟨q0, q1, q2, q3⟩ := HX1.out.four
  have HBB := Lib.hid hB
  clear hB
  by_cases h1 : (30 : Int) < (nh : Int)
  · go_wp2_with fail
    go_ret
    exact ⟨rfl, HBB.out ▸ HB1.out⟩
  · have d1 : decide ((30 : Int) < (nh : Int)) = false := decide_eq_false h1
    by_cases h2 : (60 : Int) < (nn : Int)
    · go_wp2_with fail
      go_ret
      exact ⟨rfl, HBB.out ▸ HB1.out⟩
    · have d2 : decide ((60 : Int) < (nn : Int)) = false := decide_eq_false h2
      by_cases h3 : (60 : Int) < (na : Int)
      · go_wp2_with fail
        go_ret
        exact ⟨rfl, HBB.out ▸ HB1.out⟩
      · have d3 : decide ((60 : Int) < (na : Int)) = false := decide_eq_false h3
        have hnh30 : nh ≤ 30 := by omega
        go_wp2_with fail
        refine (good_any c0 c1 c2 _ h _ l _ al w1 (by have := HNH.out; omega) (by have := HNN.out; omega) (HH.out.below HB1.out (Nat.le_refl _)) (HR.out.below HB1.out (Nat.le_refl _)) (HA.out.below HB1.out (Nat.le_refl _))).mono ?_
        rintro e w2 ⟨v2, rfl, ho2, hb2⟩
        obtain ⟨g, hg⟩ : ∃ g, goodL h l al = g := ⟨_, rfl⟩
        have hgl := goodL_len h l al
        have hgs : g.Sublist h := by rw [← hg]; exact List.filter_sublist.trans List.filter_sublist
        have hga : ∀ z ∈ g, hasB al z = true := fun z hz => by rw [← hg] at hz; exact (List.mem_filter.1 (List.mem_filter.1 hz).1).2
        have hgn : g ≠ [] → livL h al ≠ [] := fun hne e => hne (by rw [← hg]; unfold goodL; rw [e]; rfl)
        rw [hg] at ho2 hgl
        obtain ⟨ng, hng⟩ : ∃ ng, g.length = ng := ⟨_, rfl⟩
        obtain ⟨Ag, capg, hvg⟩ := ho2.slice_
        rw [hng] at hvg
        subst hvg
        have HB2 := Lib.hid (below_then HB1.out hb2)
        have HX2 := Lib.hid (HX1.out.below' hb2)
        have HG := Lib.hid ho2.rd
        have HGS := Lib.hid hgs
        have HGA := Lib.hid hga
        have HGN := Lib.hid hgn
        have HNG := Lib.hid hng
        have hng30 : ng ≤ 30 := by have := HNH.out; omega
        clear hb2 ho2 hg hgs hga hgn hng hgl q0 q1 q2 q3
        obtain ⟨q0, q1, q2, q3⟩ := HX2.out.four
        go_wp2_with fail
        go_loopw [9, 10] (fun s9 s10 wr => ∃ (i a : Nat), i ≤ ng ∧ a ≤ nh ∧ s10 = .int .i64 i ∧ s9 = .int .i64 a ∧ (g.drop i).Sublist (h.drop a) ∧ Below w2.heap.size w2 wr) (fun _ s10 _ => ng - (intOf s10).toNat)
        case atStart => exact ⟨0, 0, by omega, by omega, rfl, rfl, HGS.out, Below.refl _ _⟩
        case round =>
          obtain ⟨i, a, hi, ha, rfl, rfl, hsub, hbel⟩ := hrel
          have HSUB := Lib.hid hsub
          have HBL := Lib.hid hbel
          clear hsub hbel
          obtain ⟨p0, p1, p2, p3⟩ := (HX2.out.below' HBL.out).four
          by_cases hlt : i < ng
          · have hltI : (i : Int) < (ng : Int) := by omega
            have hG1 := HG.out.below HBL.out (Nat.le_refl _)
            rw [HNG.out] at hG1
            obtain ⟨bg, og, e1, hbgl⟩ := hG1.addr (by omega)
            subst e1
            have g0 := rd_int hG1 i (by rw [HNG.out]; exact hlt)
            have hdg := drop_at (l := g) (i := i) (by rw [HNG.out]; exact hlt)
            have hgal := HGA.out (at_ g i) (at_mem (by rw [HNG.out]; exact hlt))
            obtain ⟨x, hx⟩ : ∃ x, at_ g i = x := ⟨_, rfl⟩
            rw [hx] at g0 hdg hgal
            have HDG := Lib.hid hdg
            have HGAL := Lib.hid hgal
            clear hx hdg hgal hG1
            go_wp2_with fail
            refine (rhas_in _ al x wr ((HA.out.below HB2.out (Nat.le_refl _)).below HBL.out (Nat.le_refl _))).mono ?_
            rintro e w3 ⟨rfl, rfl⟩
            rw [HGAL.out]
            go_wp2_with fail
            go_loopw [9] (fun s9 wi => ∃ a' : Nat, a' ≤ nh ∧ s9 = .int .i64 a' ∧ (x :: g.drop (i + 1)).Sublist (h.drop a') ∧ Below w2.heap.size w2 wi) (fun s9 _ => nh - (intOf s9).toNat)
            case atStart => exact ⟨a, ha, rfl, by rw [← HDG.out]; exact HSUB.out, HBL.out⟩
            case round =>
              obtain ⟨a', ha', rfl, hsub, hbel⟩ := hrel
              have HSB := Lib.hid hsub
              have HBI := Lib.hid hbel
              have han : a' < nh := by
                rcases Nat.lt_or_ge a' nh with h5 | h5
                · exact h5
                · rw [show h.drop a' = [] from List.drop_of_length_le (by rw [HNH.out]; exact h5)] at hsub
                  cases hsub
              clear hsub hbel
              have hanI : (a' : Int) < (nh : Int) := by omega
              obtain ⟨r0, r1, r2, r3⟩ := (HX2.out.below' HBI.out).four
              have hG2 := HG.out.below HBI.out (Nat.le_refl _)
              rw [HNG.out] at hG2
              have g1 := rd_int hG2 i (by rw [HNG.out]; exact hlt)
              have hH2 := (HH.out.below HB2.out (Nat.le_refl _)).below HBI.out (Nat.le_refl _)
              rw [HNH.out] at hH2
              obtain ⟨bh, oh, e1, hbhl⟩ := hH2.addr (by omega)
              subst e1
              have y0 := rd_int hH2 a' (by rw [HNH.out]; exact han)
              have hdh := drop_at (l := h) (i := a') (by rw [HNH.out]; exact han)
              have hgx : at_ g i = x := by
                have := drop_at (l := g) (i := i) (by rw [HNG.out]; exact hlt)
                rw [HDG.out] at this
                exact (List.cons.inj this).1.symm
              rw [hgx] at g1
              obtain ⟨y, hy⟩ : ∃ y, at_ h a' = y := ⟨_, rfl⟩
              rw [hy] at y0 hdh
              have HDH := Lib.hid hdh
              clear hG2 hH2 hdh hgx hy p0 p1 p2 p3 g0
              by_cases he : y = x
              · subst he
                go_wp2_with fail
                go_quiet (fail)
                have r3d : (wr.drewN nq).cell? ⟨B, 3, none⟩ = some (.slice (some ⟨bh, oh, none⟩) nh caph) := r3
                have HBD := Lib.hid (below_drewN HBI.out nq)
                generalize wr.drewN nq = wd at *
                clear r0 r1 r2 r3 g1 y0
                have hge : decide ((nh : Int) ≤ (a' : Int)) = false := decide_eq_false (by omega)
                go_wp2_with fail
                go_roundw
                case rel =>
                  have h6 := HSB.out
                  rw [HDH.out] at h6
                  exact ⟨i + 1, a' + 1, by omega, by omega, by go_num, by go_num, sub_hit h6, HBD.out⟩
                case measure => simp [intOf]; omega
              · have he' : (y != x) = true := by simpa using he
                go_wp2_with fail
                go_quiet (fail)
                have HBD := Lib.hid (below_drewN HBI.out nq)
                generalize wr.drewN nq = wd at *
                clear r0 r1 r2 r3 g1 y0
                go_wp2_with fail
                go_roundw
                case rel =>
                  have h6 := HSB.out
                  rw [HDH.out] at h6
                  exact ⟨a' + 1, by omega, by go_num, sub_skip h6 he, HBD.out⟩
                case measure => simp [intOf]; omega
          · obtain rfl : i = ng := by omega
            go_wp2_with fail
            have HBr := Lib.hid (HB2.out.trans (HBL.out.mono HB2.out.size))
            have hal := below_one wr (.cells #[.int .i64 c0, .int .i64 c1, .int .u32 c2, .slice Ah nh caph] 39)
            refine (lost_one c0 c1 c2 _ h wr.heap.size _ al _ (by have := HNH.out; omega) (Bx.new wr 39 [.int .i64 c0, .int .i64 c1, .int .u32 c2, .slice Ah nh caph]) ((HH.out.below HBr.out (Nat.le_refl _)).below hal (Nat.le_refl _)) ((HA.out.below HBr.out (Nat.le_refl _)).below hal (Nat.le_refl _))).mono ?_
            rintro e w5 ⟨A5, n5, cap5, rfl, hn5, hb5⟩
            have HB5 := Lib.hid (below_then (below_then HBr.out hal) hb5)
            clear hb5 hal
            by_cases hg0 : i = 0
            · subst hg0
              clear hn5
              go_wp2_with fail
              go_ret
              exact ⟨rfl, HBB.out ▸ HB5.out⟩
            · have hn50 : n5 = 0 := hn5 (HGN.out (fun e => hg0 (by rw [← HNG.out, e]; rfl)))
              subst hn50
              have hg0' : ((i : Int) == 0) = false := by simpa using (by omega : ¬ (i : Int) = 0)
              clear hn5
              go_wp2_with fail
              go_ret
              exact ⟨rfl, HBB.out ▸ HB5.out⟩

end Go.Proofs.Ytflndnbjdhbppaa

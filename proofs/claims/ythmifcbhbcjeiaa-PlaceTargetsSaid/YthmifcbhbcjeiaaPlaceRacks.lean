/- PlaceRacks: the walk. -/
import Derived.Test.YthmifcbhbcjeiaaPlaceMay
import Derived.Test.YthmifcbhbcjeiaaAppI
namespace Go.Proofs.Ythmifcbhbcjeiaa
open Go Go.RowKit Go.Sort

section
variable {l : List Nq} {al : List Int} {ld : List Ld} {ho : List Int}
theorem less_step {x n a : Nq} (h : lessT l ld ho n a = true) (hx : lessT l ld ho x a = false) : lessT l ld ho x n = false := by
  unfold lessT at *
  generalize oldB l ho n.2.1 = p at *
  generalize oldB l ho a.2.1 = q at *
  generalize oldB l ho x.2.1 = r at *
  cases p <;> cases q <;> cases r <;> simp at * <;> omega
theorem less_irr (x : Nq) : lessT l ld ho x x = false := by
  unfold lessT
  simp
theorem fold_min (xs : List Nq) : ∀ (seen : List Nq) acc, (∀ x ∈ seen, mayT l al ld ho x.1 = true → ∃ a, acc = some a ∧ lessT l ld ho x a = false) →
    ∀ x ∈ seen ++ xs, mayT l al ld ho x.1 = true → ∃ a, xs.foldl (stepT l al ld ho) acc = some a ∧ lessT l ld ho x a = false := by
  induction xs with
  | nil => intro seen acc h x hx hm; exact h x (by simpa using hx) hm
  | cons n xs ih =>
    intro seen acc h x hx hm
    refine ih (seen ++ [n]) (stepT l al ld ho acc n) ?_ x (by simpa using hx) hm
    intro y hy hmy
    unfold stepT
    by_cases hc : (mayT l al ld ho n.1 && beats l ld ho n acc) = true
    · rw [if_pos hc]
      refine ⟨n, rfl, ?_⟩
      simp only [Bool.and_eq_true] at hc
      rcases List.mem_append.1 hy with hy | hy
      · obtain ⟨a, rfl, hya⟩ := h y hy hmy
        exact less_step hc.2 hya
      · obtain rfl : y = n := by simpa using hy
        exact less_irr y
    · rw [if_neg hc]
      rcases List.mem_append.1 hy with hy | hy
      · exact h y hy hmy
      · obtain rfl : y = n := by simpa using hy
        cases acc with
        | none => exact absurd (by simp [hmy, beats]) hc
        | some a => exact ⟨a, rfl, by simpa [hmy, beats] using hc⟩
theorem tgtL_min {a x : Nq} (h : tgtL l al ld ho = some a) (hx : x ∈ l) (hm : mayT l al ld ho x.1 = true) : lessT l ld ho x a = false := by
  obtain ⟨b, hb, hl⟩ := fold_min (l := l) (al := al) (ld := ld) (ho := ho) l [] none (fun _ h => by cases h) x (by simpa using hx) hm
  rw [show l.foldl (stepT l al ld ho) none = some a from h] at hb
  cases hb
  exact hl
theorem racksN_add {z : Int} {x : Nq} (h : findL l z = some x) : racksN l (ho ++ [z]) = if oldB l ho x.2.1 then racksN l ho else racksN l ho + 1 := by
  have hr : rackOf l z = some x.2.1 := by unfold rackOf; rw [h]; rfl
  have e : racksOf l (ho ++ [z]) = racksOf l ho ++ [x.2.1] := by
    unfold racksOf
    rw [List.filterMap_append]
    simp [hr]
  unfold racksN
  rw [e, dist_snoc]
  by_cases hm : x.2.1 ∈ racksOf l ho
  · rw [if_pos hm, if_pos (show oldB l ho x.2.1 = true from hasB_iff.2 hm)]
  · rw [if_neg hm, if_neg (show ¬ oldB l ho x.2.1 = true from fun h => hm (hasB_iff.1 h))]
end

set_option maxHeartbeats 2000000 in
set_option maxRecDepth 100000 in
theorem placeRacks_walk (v : Value) (l : List Nq) (va : Value) (al : List Int) (vd : Value) (ld : List Ld) (vh : Value) (ho : List Int) (z : Int) (W : World) (hwf : okW l) (hR : Rd W 4 v l.length (l.flatMap noC)) (hA : Rd W 1 va al.length (al.flatMap inC)) (hD : Rd W 2 vd ld.length (ld.flatMap ldC)) (hH : Rd W 1 vh ho.length (ho.flatMap inC)) :
    Calls Try.prog 8 #[v, va, vd, vh, .int .i64 z] W fun e w' => e = .returned (.bool true) ∧ Below W.heap.size W w' := by
  have HR := Lib.hid hR
  have HA := Lib.hid hA
  have HD := Lib.hid hD
  have HH := Lib.hid hH
  have HW := Lib.hid hwf
  clear hR hA hD hH hwf
  go_enter Try.func8, Try.ntmps8
  go_wp2_with fail
  refine (awake16 W).mono ?_
  rintro e w1 ⟨rfl, hb1⟩
  have HB1 := Lib.hid hb1
  clear hb1
  go_wp2_with fail
  refine (few16 _ _ _ _ l al ld ho w1 (HR.out.below HB1.out (Nat.le_refl _)) (HA.out.below HB1.out (Nat.le_refl _)) (HD.out.below HB1.out (Nat.le_refl _)) (HH.out.below HB1.out (Nat.le_refl _))).mono ?_
  rintro e w2 ⟨b, rfl, hf, rfl⟩
  cases b with
  | false =>
    clear hf
    go_wp2_with fail
    go_ret
    exact ⟨rfl, HB1.out⟩
  | true =>
    obtain ⟨⟨h1, h2, h3, h4⟩, h5⟩ := hf rfl
    clear hf
    have HP : Hid (posD ld) := fun y hy => (h5 y hy).1
    clear h5
    go_wp2_with fail
    refine (May_any _ l w1 (HR.out.below HB1.out (Nat.le_refl _))).mono ?_
    rintro e w2 ⟨rfl, hb2⟩
    have HB2 := Lib.hid (below_then HB1.out hb2)
    clear hb2
    obtain ⟨bm, hbm⟩ : ∃ b, mayL l = b := ⟨_, rfl⟩
    rw [hbm]
    have HBM := Lib.hid hbm
    clear hbm
    cases bm with
    | false =>
      go_wp2_with fail
      go_ret
      exact ⟨rfl, HB2.out⟩
    | true =>
      go_wp2_with fail
      refine (mayp_any _ va vd vh l al ld ho z w2 (by omega) (HR.out.below HB2.out (Nat.le_refl _)) (HA.out.below HB2.out (Nat.le_refl _)) (HD.out.below HB2.out (Nat.le_refl _)) (HH.out.below HB2.out (Nat.le_refl _))).mono ?_
      rintro e w3 ⟨rfl, hb3⟩
      have HB3 := Lib.hid (below_then HB2.out hb3)
      clear hb3
      obtain ⟨bz, hbz⟩ : ∃ b, mayT l al ld ho z = b := ⟨_, rfl⟩
      rw [hbz]
      have HBZ := Lib.hid hbz
      clear hbz
      cases bz with
      | false =>
        go_wp2_with fail
        go_ret
        exact ⟨rfl, HB3.out⟩
      | true =>
        go_wp2_with fail
        refine (target_any _ _ _ _ l al ld ho w3 (by omega) (by omega) HW.out HP.out (HR.out.below HB3.out (Nat.le_refl _)) (HA.out.below HB3.out (Nat.le_refl _)) (HD.out.below HB3.out (Nat.le_refl _)) (HH.out.below HB3.out (Nat.le_refl _))).mono ?_
        rintro e w4 ⟨rfl, hb4⟩
        have HB4 := Lib.hid (below_then HB3.out hb4)
        clear hb4
        obtain ⟨o, hoo⟩ : ∃ o, tgtL l al ld ho = o := ⟨_, rfl⟩
        rw [hoo]
        have HT := Lib.hid hoo
        clear hoo
        cases o with
        | none =>
          have := tgtL_none HT.out z
          rw [HBZ.out] at this
          cases this
        | some a =>
          obtain ⟨x, hx, _⟩ := (mayT_iff _ _ _ _ _).1 HBZ.out
          obtain ⟨hml, hxl, hxz⟩ := findL_some.1 hx
          obtain ⟨hal, hma⟩ := tgtL_ok HT.out
          have hfa : findL l a.1 = some a := findL_some.2 ⟨hml, hal, rfl⟩
          have hmin := tgtL_min HT.out hxl (by rw [hxz]; exact HBZ.out)
          have ra := racksN_add (ho := ho) hfa
          have rx := racksN_add (ho := ho) hx
          have hfin : ¬ (racksN l ho < racksN l (ho ++ [z]) ∧ racksN l (ho ++ [a.1]) = racksN l ho) ∧ (racksN l (ho ++ [a.1]) = racksN l (ho ++ [z]) → loadL ld a.1 ≤ loadL ld z) := by
            rw [ra, rx]
            unfold lessT at hmin
            rw [hxz] at hmin
            clear HT ra rx hfa
            generalize oldB l ho x.2.1 = p at *
            generalize oldB l ho a.2.1 = q at *
            cases p <;> cases q <;> simp at hmin ⊢ <;> omega
          have HF := Lib.hid hfin
          clear hfin ra rx hmin hfa hma hal hxz hxl hml hx
          obtain ⟨t, ht⟩ : ∃ t, a.1 = t := ⟨_, rfl⟩
          rw [ht] at HF
          have hid : idO (some a) = t := ht
          rw [hid]
          simp only [Option.isSome_some]
          clear hid ht HT HBZ
          obtain ⟨Ah, caph, hvh, _, _⟩ := HH.out.shape
          subst hvh
          go_wp2_with fail
          refine (racks_any _ _ l ho w4 (by omega) (by omega) (HR.out.below HB4.out (Nat.le_refl _)) (HH.out.below HB4.out (Nat.le_refl _))).mono ?_
          rintro e w5 ⟨rfl, hb5⟩
          have HB5 := Lib.hid (below_then HB4.out hb5)
          have hs5 := HB5.out.size
          clear hb5
          go_wp2_with (first
            | (at_builtin; refine wpList_app_in rfl (.const (.slice none 0 0)) (.tmp 59) rfl w5.heap.size (.slice none 0 0) [] rfl (Own.nil_ _ _ _ _) (.slice Ah ho.length caph) ho rfl (HH.out.below HB5.out (Nat.le_refl _)) (by simp; omega) (Nat.le_refl _) ?_; intro v6 w6 hown6 _ hb6; have HO6 := Lib.hid hown6; have HB6 := Lib.hid hb6; have hs6 := hb6.size; clear hown6 hb6)
            | (at_builtin; refine wpList_app_in rfl (.tmp 60) (.tmp 62) rfl w5.heap.size v6 ([] ++ ho) rfl (HO6.out.alloc _) (.slice (some ⟨w6.heap.size, 0, none⟩) 1 1) [t] rfl (rd_one (t := 3) (heap_alloc_new _ _) rfl) (by simp; omega) (by simp; omega) ?_; intro v7 w7 hown7 _ hb7; have HO7 := Lib.hid hown7; have HB7 := Lib.hid (below_then HB5.out (HB6.out.trans ((below_one w6 (.cells #[.int .i64 t] 3)).mono hs6 |>.trans hb7))); clear hown7 hb7))
          refine (racks_any _ v7 l (ho ++ [t]) w7 (by omega) (by simp; omega) (HR.out.below HB7.out (Nat.le_refl _)) HO7.out.rd).mono ?_
          rintro e w8 ⟨rfl, hb8⟩
          have HB8 := Lib.hid (below_then HB7.out hb8)
          have hs8 := HB8.out.size
          clear hb8 HB7 HO7 HB6 HO6 hs6
          go_wp2_with (first
            | (at_builtin; refine wpList_app_in rfl (.const (.slice none 0 0)) (.tmp 66) rfl w8.heap.size (.slice none 0 0) [] rfl (Own.nil_ _ _ _ _) (.slice Ah ho.length caph) ho rfl (HH.out.below HB8.out (Nat.le_refl _)) (by simp; omega) (Nat.le_refl _) ?_; intro v9 w9 hown9 _ hb9; have HO9 := Lib.hid hown9; have HB9 := Lib.hid hb9; have hs9 := hb9.size; clear hown9 hb9)
            | (at_builtin; refine wpList_app_in rfl (.tmp 67) (.tmp 69) rfl w8.heap.size v9 ([] ++ ho) rfl (HO9.out.alloc _) (.slice (some ⟨w9.heap.size, 0, none⟩) 1 1) [z] rfl (rd_one (t := 3) (heap_alloc_new _ _) rfl) (by simp; omega) (by simp; omega) ?_; intro v10 w10 hown10 _ hb10; have HO10 := Lib.hid hown10; have HB10 := Lib.hid (below_then HB8.out (HB9.out.trans ((below_one w9 (.cells #[.int .i64 z] 3)).mono hs9 |>.trans hb10))); clear hown10 hb10))
          refine (racks_any _ v10 l (ho ++ [z]) w10 (by omega) (by simp; omega) (HR.out.below HB10.out (Nat.le_refl _)) HO10.out.rd).mono ?_
          rintro e w11 ⟨rfl, hb11⟩
          have HB11 := Lib.hid (below_then HB10.out hb11)
          clear hb11 HB10 HO10 HB9 HO9 hs9
          have C1 := fun (w' : World) (hb : Below W.heap.size W w') => load_any vd ld t w' (HD.out.below hb (Nat.le_refl _))
          have C2 := fun (w' : World) (hb : Below W.heap.size W w') => load_any vd ld z w' (HD.out.below hb (Nat.le_refl _))
          obtain ⟨f1, f2⟩ := HF.out
          obtain ⟨na, hna⟩ : ∃ n, loadL ld t = n := ⟨_, rfl⟩
          obtain ⟨nz, hnz⟩ : ∃ n, loadL ld z = n := ⟨_, rfl⟩
          rw [hna] at C1 f2
          rw [hnz] at C2 f2
          clear hna hnz HF
          generalize racksN l ho = h at *
          generalize racksN l (ho ++ [t]) = ra at *
          generalize racksN l (ho ++ [z]) = rb at *
          have HC1 := Lib.hid C1
          have HC2 := Lib.hid C2
          have HF1 := Lib.hid f1
          have HF2 := Lib.hid f2
          clear C1 C2 f1 f2
          by_cases hbh : h < rb
          · have hra : ¬ (ra : Int) = (h : Int) := fun e => HF1.out ⟨hbh, by omega⟩
            have hbhI : (rb : Int) > (h : Int) := by omega
            have hraB : ((ra : Int) == (h : Int)) = false := by simpa using hra
            by_cases hab : ra = rb
            · subst hab
              have hle := HF2.out rfl
              go_wp2_with fail
              refine (HC1.out w11 HB11.out).mono ?_
              rintro e w12 ⟨rfl, hb12⟩
              have HB12 := Lib.hid (below_then HB11.out hb12)
              clear hb12
              go_wp2_with fail
              refine (HC2.out w12 HB12.out).mono ?_
              rintro e w13 ⟨rfl, hb13⟩
              have HB13 := Lib.hid (below_then HB12.out hb13)
              clear hb13
              go_wp2_with fail
              go_ret
              exact ⟨by first | rfl | trivial, HB13.out⟩
            · have habI : ¬ (ra : Int) = (rb : Int) := by omega
              have habB : ((ra : Int) != (rb : Int)) = true := by simpa using habI
              go_wp2_with fail
              go_ret
              exact ⟨by first | rfl | trivial, HB11.out⟩
          · have hbhI : ¬ (rb : Int) > (h : Int) := by omega
            by_cases hab : ra = rb
            · subst hab
              have hle := HF2.out rfl
              go_wp2_with fail
              refine (HC1.out w11 HB11.out).mono ?_
              rintro e w12 ⟨rfl, hb12⟩
              have HB12 := Lib.hid (below_then HB11.out hb12)
              clear hb12
              go_wp2_with fail
              refine (HC2.out w12 HB12.out).mono ?_
              rintro e w13 ⟨rfl, hb13⟩
              have HB13 := Lib.hid (below_then HB12.out hb13)
              clear hb13
              go_wp2_with fail
              go_ret
              exact ⟨by first | rfl | trivial, HB13.out⟩
            · have habI : ¬ (ra : Int) = (rb : Int) := by omega
              have habB : ((ra : Int) != (rb : Int)) = true := by simpa using habI
              go_wp2_with fail
              go_ret
              exact ⟨by first | rfl | trivial, HB11.out⟩

end Go.Proofs.Ythmifcbhbcjeiaa

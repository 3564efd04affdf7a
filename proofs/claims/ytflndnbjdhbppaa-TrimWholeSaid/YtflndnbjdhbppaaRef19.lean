/- sutureref19.shared, Excess: their contracts. -/
import Derived.Test.YtflndnbjdhbppaaRef17
import Derived.Test.YtflndnbjdhbppaaTrimY
namespace Go.Proofs.Ytflndnbjdhbppaa
open Go Go.RowKit

def shP (l : List Nq) (z y : Int) : Bool := (findL l y).isSome && y != z && rackV l y == rackV l z
theorem shB_hit {l : List Nq} {g : List Int} {z : Int} {k : Nat} (hk : k < g.length) (h : shP l z (at_ g k) = true) : shB l g z = true := List.any_eq_true.2 ⟨_, at_mem hk, h⟩
theorem shB_none {l : List Nq} {g : List Int} {z : Int} (h : ∀ j, j < g.length → shP l z (at_ g j) = false) : shB l g z = false := by
  unfold shB
  rw [List.any_eq_false]
  intro y hy
  obtain ⟨j, hj, rfl⟩ := mem_at hy
  have := h j hj
  unfold shP at this
  simpa using this
theorem rackV_some {l : List Nq} {z : Int} {y : Nq} (h : findL l z = some y) : rackV l z = y.2.1 := by unfold rackV; rw [h]; rfl
theorem rackV_none {l : List Nq} {z : Int} (h : findL l z = none) : rackV l z = 0 := by unfold rackV; rw [h]; rfl
theorem shP_none {l : List Nq} {z y : Int} (h : findL l y = none) : shP l z y = false := by unfold shP; rw [h]; rfl
theorem shP_some {l : List Nq} {z y : Int} {n : Nq} (h : findL l y = some n) : shP l z y = (y != z && n.2.1 == rackV l z) := by unfold shP; rw [rackV_some h, h]; simp

set_option maxHeartbeats 2000000 in
theorem rsh_any (vn vi : Value) (l : List Nq) (g : List Int) (z : Int) (w : World) (hN : Rd w 4 vn l.length (l.flatMap noC)) (hI : Rd w 1 vi g.length (g.flatMap inC)) :
    Calls Try.prog 54 #[vn, vi, .int .i64 z] w fun e w' => e = .returned (.bool (shB l g z)) ∧ Below w.heap.size w w' := by
  obtain ⟨A, cap, hv, hcap, hnc⟩ := hI.shape
  subst hv
  obtain ⟨n, hn⟩ : ∃ n, g.length = n := ⟨_, rfl⟩
  have HN := Lib.hid hN
  have HI := Lib.hid hI
  have HG := Lib.hid hn
  rw [hn] at hnc ⊢
  have hn63 : n ≤ 9223372036854775807 := by omega
  clear hN hI hn
  go_enter Try.func54, Try.ntmps54
  go_wp2_with fail
  refine (refFind_any vn l z w HN.out).mono ?_
  rintro e w1 ⟨rfl, hb1⟩
  have hrk : ∃ a b c d, noV (optN (findL l z)) = .agg #[.int .i64 a, .int .i64 b, .int .i64 c, .int .i64 d] ∧ rackV l z = b := by
    cases h : findL l z with
    | none => exact ⟨0, 0, 0, 0, rfl, rackV_none h⟩
    | some y => exact ⟨y.1, y.2.1, y.2.2.1, y.2.2.2, rfl, rackV_some h⟩
  obtain ⟨a, rk, c, d, hag, hrv⟩ := hrk
  obtain ⟨bz, hbz⟩ : ∃ b, (findL l z).isSome = b := ⟨_, rfl⟩
  rw [hag, hbz]
  have HRV := Lib.hid hrv
  have HB1 := Lib.hid (below_then hb1 (below_one w1 (.cells #[.int .i64 a, .int .i64 rk, .int .i64 c, .int .i64 d] 58)))
  have hbx := Bx.new w1 58 [.int .i64 a, .int .i64 rk, .int .i64 c, .int .i64 d]
  change Bx (w1.alloc (.cells #[.int .i64 a, .int .i64 rk, .int .i64 c, .int .i64 d] 58)) _ _ _ at hbx
  clear hb1 hag hbz hrv
  go_wp2_with fail
  generalize (w1.alloc (.cells #[.int .i64 a, .int .i64 rk, .int .i64 c, .int .i64 d] 58)) = w2 at *
  have HBX := Lib.hid hbx
  clear hbx
  go_loopw [9] (fun s9 wr => ∃ k : Nat, k ≤ n ∧ s9 = .int .i64 k ∧ (∀ j, j < k → shP l z (at_ g j) = false) ∧ Below w2.heap.size w2 wr) (fun s9 _ => n - (intOf s9).toNat)
  case atStart => exact ⟨0, Nat.zero_le _, rfl, fun j hj => absurd hj (by omega), Below.refl _ _⟩
  case round =>
    obtain ⟨k, hk, rfl, hall, hbel⟩ := hrel
    have HA := Lib.hid hall
    have HB := Lib.hid hbel
    have hsr := hbel.size
    clear hall hbel
    by_cases hlt : k < n
    · have hltI : (k : Int) < (n : Int) := by omega
      have hH1 := (HI.out.below HB1.out (Nat.le_refl _)).below HB.out (Nat.le_refl _)
      rw [HG.out] at hH1
      obtain ⟨b, off, hA', hbl⟩ := hH1.addr (by omega)
      subst hA'
      have c0' := rd_int hH1 k (by rw [HG.out]; exact hlt)
      obtain ⟨x, hx⟩ : ∃ x, at_ g k = x := ⟨_, rfl⟩
      rw [hx] at c0'
      have HX := Lib.hid hx
      have HNX : Hid (shP l z x = false → ∀ j, j < k + 1 → shP l z (at_ g j) = false) := fun h j hj => by
        by_cases e : j = k
        · subst e; rw [HX.out]; exact h
        · exact HA.out j (by omega)
      have HYX : Hid (shP l z x = true → shB l g z = true) := fun h => shB_hit (k := k) (by rw [HG.out]; exact hlt) (by rw [HX.out]; exact h)
      clear hx hH1
      go_wp2_with fail
      refine (refFind_any vn l x wr ((HN.out.below HB1.out (Nat.le_refl _)).below HB.out (Nat.le_refl _))).mono ?_
      rintro e w3 ⟨rfl, hb3⟩
      obtain ⟨o, ho⟩ : ∃ o, findL l x = o := ⟨_, rfl⟩
      rw [ho]
      have HO := Lib.hid ho
      have c1' := (hb3.cell (p := ⟨b, off + k, none⟩) (by show b < wr.heap.size; omega)).trans c0'
      have HB3 := Lib.hid (HB.out.trans (hb3.mono hsr))
      have b3 := HBX.out.below' HB3.out
      have hs3 := hb3.size
      clear ho hb3 c0'
      cases o with
      | none =>
        simp only [optN, noV, Option.getD_none, Option.isSome_none]
        clear b3
        go_wp2_with fail
        go_roundw
        case rel => exact ⟨k + 1, by omega, by go_num, HNX.out (shP_none HO.out), HB3.out.alloc (by omega) _⟩
        case measure => simp [intOf]; omega
      | some y =>
        obtain ⟨y0, y1, y2, y3⟩ := y
        simp only [optN, noV, Option.getD_some, Option.isSome_some]
        have c2' := keep_alloc c1' (.cells #[.int .i64 y0, .int .i64 y1, .int .i64 y2, .int .i64 y3] 58)
        have r2 := (b3.alloc (.cells #[.int .i64 y0, .int .i64 y1, .int .i64 y2, .int .i64 y3] 58)).cell 1
        simp only [List.getElem?_cons_succ, List.getElem?_cons_zero] at r2
        have HPS := Lib.hid (shP_some (z := z) HO.out)
        rw [HRV.out] at HPS
        clear b3
        by_cases hy : x = z
        · have hy' : (x != z) = false := by simpa using hy
          have HF : Hid (shP l z x = false) := by rw [HPS.out, hy']; exact rfl
          clear hy
          go_wp2_with fail
          go_roundw
          case rel => exact ⟨k + 1, by omega, by go_num, HNX.out HF.out, HB3.out.alloc (by omega) _⟩
          case measure => simp [intOf]; omega
        · have hy' : (x != z) = true := by simpa using hy
          clear hy
          by_cases hr : y1 = rk
          · have hr' : (y1 == rk) = true := by simpa using hr
            have HF : Hid (shP l z x = true) := by rw [HPS.out, hy']; exact hr'
            clear hr
            go_wp2_with fail
            go_ret
            exact ⟨by rw [HYX.out HF.out]; rfl, HB1.out.trans ((HB3.out.alloc (by omega) _).mono HB1.out.size)⟩
          · have hr' : (y1 == rk) = false := by simpa using hr
            have HF : Hid (shP l z x = false) := by rw [HPS.out, hy']; exact hr'
            clear hr
            go_wp2_with fail
            go_roundw
            case rel => exact ⟨k + 1, by omega, by go_num, HNX.out HF.out, HB3.out.alloc (by omega) _⟩
            case measure => simp [intOf]; omega
    · obtain rfl : k = n := by omega
      go_wp2_with fail
      go_ret
      exact ⟨by rw [shB_none (l := l) (g := g) (z := z) (by rw [HG.out]; exact HA.out)]; rfl, HB1.out.trans (HB.out.mono HB1.out.size)⟩

def btE (sa sb : Bool) (lx lm x m : Int) : Bool := (sa && !sb) || (sa == sb && (decide (lm < lx) || (lx == lm && decide (m < x))))
theorem btB_eq (l : List Nq) (ld : List Ld) (g : List Int) (x m : Int) : btB l ld g x m = btE (shB l g x) (shB l g m) (loadL ld x) (loadL ld m) x m := rfl

set_option maxHeartbeats 4000000 in
set_option maxRecDepth 100000 in
theorem rexcess_any (c0 c1 c2 : Int) (vh : Value) (h : List Int) (vn : Value) (l : List Nq) (va : Value) (al : List Int) (vd : Value) (ld : List Ld) (want : Int) (w : World) (hl : h.length ≤ 1000) (hH : Rd w 1 vh h.length (h.flatMap inC)) (hN : Rd w 4 vn l.length (l.flatMap noC)) (hA : Rd w 1 va al.length (al.flatMap inC)) (hD : Rd w 2 vd ld.length (ld.flatMap ldC)) :
    Calls Try.prog 27 #[.agg #[.int .i64 c0, .int .i64 c1, .int .u32 c2, vh], vn, va, vd, .int .i64 want] w fun e w' => e = .returned (optI (excT h l al ld want)) ∧ Below w.heap.size w w' := by
  obtain ⟨A, cap, hv, _, _⟩ := hH.shape
  subst hv
  have HH := Lib.hid hH
  have HN := Lib.hid hN
  have HA := Lib.hid hA
  have HD := Lib.hid hD
  clear hH hA hN hD
  go_enter Try.func27, Try.ntmps27
  go_wp2_with fail
  have hal := below_one w (.cells #[.int .i64 c0, .int .i64 c1, .int .u32 c2, .slice A h.length cap] 39)
  have hbc := Bx.new w 39 [.int .i64 c0, .int .i64 c1, .int .u32 c2, .slice A h.length cap]
  change Bx (w.alloc (.cells #[.int .i64 c0, .int .i64 c1, .int .u32 c2, .slice A h.length cap] 39)) _ _ _ at hbc
  generalize (w.alloc (.cells #[.int .i64 c0, .int .i64 c1, .int .u32 c2, .slice A h.length cap] 39)) = w1 at *
  refine (rgood_any c0 c1 c2 _ h vn l va al w1 hl (HH.out.below hal (Nat.le_refl _)) (HN.out.below hal (Nat.le_refl _)) (HA.out.below hal (Nat.le_refl _))).mono ?_
  rintro e w2 ⟨v2, rfl, ho2, hb2⟩
  obtain ⟨A2, cap2, hv2⟩ := ho2.slice_
  subst hv2
  have hgl := goodL_len h l al
  have hge := goodL_eq h l al
  obtain ⟨g, hg⟩ : ∃ g, goodL h l al = g := ⟨_, rfl⟩
  rw [hg] at ho2 hgl hge ⊢
  obtain ⟨n, hn⟩ : ∃ n, g.length = n := ⟨_, rfl⟩
  rw [hn] at ho2 hgl ⊢
  have HN0 := Lib.hid hn
  have HGE := Lib.hid hge
  have HG2 := Lib.hid ho2.rd
  have HB2 := Lib.hid (below_then hal hb2)
  have HC2 := Lib.hid (hbc.below' hb2)
  clear hal hbc ho2 hb2 hg hge hn
  obtain ⟨q0, q1, q2, q3⟩ := HC2.out.four
  by_cases h1 : want < 1
  · have HE := Lib.hid (excL_few (G := gB l al) (I := iB l al) (bt := btB l ld) (h := h) (want := want) (.inl h1))
    go_wp2_with fail
    refine bodyPost_ret (v := .tuple #[.int .i64 0, .bool false]) (by simp [results, Try.results27, go_sem]) rfl ⟨by unfold excT; rw [HE.out]; rfl, HB2.out⟩
  by_cases h2 : (n : Int) < want
  · have HE := Lib.hid (excL_few (G := gB l al) (I := iB l al) (bt := btB l ld) (h := h) (want := want) (.inr (by rw [← HGE.out, HN0.out]; exact h2)))
    go_wp2_with fail
    refine bodyPost_ret (v := .tuple #[.int .i64 0, .bool false]) (by simp [results, Try.results27, go_sem]) rfl ⟨by unfold excT; rw [HE.out]; rfl, HB2.out⟩
  have HW := Lib.hid (show ¬ (want < 1 ∨ ((h.filter (gB l al)).length : Int) < want) from fun hh => hh.elim h1 (by rw [← HGE.out, HN0.out]; exact h2))
  go_wp2_with fail
  refine (ridle_any c0 c1 c2 _ h vn l va al w2 hl (HH.out.below HB2.out (Nat.le_refl _)) (HN.out.below HB2.out (Nat.le_refl _)) (HA.out.below HB2.out (Nat.le_refl _))).mono ?_
  rintro e w3 ⟨v3, rfl, ho3, hb3⟩
  obtain ⟨A3, cap3, hv3⟩ := ho3.slice_
  subst hv3
  have hil : (idlL h l al).length ≤ h.length := List.length_filter_le _ _
  have hid : idlL h l al = h.filter (iB l al) := rfl
  obtain ⟨ix, hix⟩ : ∃ g, idlL h l al = g := ⟨_, rfl⟩
  rw [hix] at ho3 hid hil ⊢
  have HI3 := Lib.hid ho3.rd
  have HB3 := Lib.hid (below_then HB2.out hb3)
  have HG3 := Lib.hid (HG2.out.below hb3 (Nat.le_refl _))
  have HID := Lib.hid hid
  clear ho3 hb3 hid hix q0 q1 q2 q3 HC2 HG2
  cases ix with
  | cons x t =>
    have HE := Lib.hid (excL_idle (G := gB l al) (I := iB l al) (bt := btB l ld) (h := h) (want := want) HW.out (x := x) (t := t) HID.out.symm)
    have hR := HI3.out
    simp only [List.length_cons] at hR hil ⊢
    obtain ⟨b0, off0, hA0, hbl0⟩ := hR.addr (by omega)
    subst hA0
    have d0 : w3.cell? ⟨b0, off0, none⟩ = some (.int .i64 x) := by have := rd_int hR 0 (by simp); simpa [at_] using this
    clear hR
    have hcI : ((t.length + 1 : Nat) : Int) > 0 := by omega
    generalize t.length + 1 = m at *
    go_wp2_with fail
    refine bodyPost_ret (v := .tuple #[.int .i64 x, .bool true]) (by simp [results, Try.results27, go_sem]) rfl ⟨by unfold excT; rw [HE.out]; rfl, HB3.out⟩
  | nil =>
    simp only [List.length_nil]
    by_cases h3 : (n : Int) = want
    · have HE := Lib.hid (excL_just (G := gB l al) (I := iB l al) (bt := btB l ld) (h := h) (want := want) HID.out.symm (by rw [← HGE.out, HN0.out]; exact h3))
      have h3' : ((n : Int) ≤ want) := by omega
      clear h3
      go_wp2_with fail
      refine bodyPost_ret (v := .tuple #[.int .i64 0, .bool false]) (by simp [results, Try.results27, go_sem]) rfl ⟨by unfold excT; rw [HE.out]; rfl, HB3.out⟩
    have HE := Lib.hid (excL_more (G := gB l al) (I := iB l al) (bt := btB l ld) (h := h) (want := want) HW.out HID.out.symm (by rw [← HGE.out, HN0.out]; exact h3))
    rw [← HGE.out] at HE
    have h3' : ¬ ((n : Int) ≤ want) := by omega
    have hn0 : 0 < n := by omega
    have hR0 := HG3.out
    obtain ⟨bg, og, e1, hbgl⟩ := hR0.addr hn0
    subst e1
    have d0 : w3.cell? ⟨bg, og, none⟩ = some (.int .i64 (at_ g 0)) := by have := rd_int hR0 0 (by rw [HN0.out]; exact hn0); simpa using this
    have HM1 := Lib.hid (maxF_one (btB l ld g) g (by rw [HN0.out]; exact hn0))
    obtain ⟨x0, hx0⟩ : ∃ x, at_ g 0 = x := ⟨_, rfl⟩
    rw [hx0] at d0 HM1
    clear h3 hR0 hx0
    have hn63 : n ≤ 9223372036854775807 := by omega
    go_wp2_with fail
    go_loopw [14, 15] (fun s14 s15 wr => ∃ k : Nat, 0 < k ∧ k ≤ n ∧ s15 = .int .i64 k ∧ s14 = .int .i64 (maxF (btB l ld g) (g.take k)) ∧ Below w3.heap.size w3 wr) (fun _ s15 _ => n - (intOf s15).toNat)
    case atStart => exact ⟨1, by omega, by omega, rfl, by rw [HM1.out], Below.refl _ _⟩
    case round =>
      obtain ⟨k, hk0, hk, rfl, hs14, hbel⟩ := hrel
      obtain ⟨m, hm⟩ : ∃ m, maxF (btB l ld g) (g.take k) = m := ⟨_, rfl⟩
      rw [hm] at hs14
      subst hs14
      have HM := Lib.hid hm
      have HBL := Lib.hid hbel
      have hsr := hbel.size
      clear hbel hm d0
      by_cases hlt : k < n
      · have hltI : (k : Int) < (n : Int) := by omega
        have HST := Lib.hid (maxF_step (btB l ld g) g k hk0 (by rw [HN0.out]; exact hlt))
        have cc : ∀ w', Below w3.heap.size w3 w' → w'.cell? ⟨bg, og + k, none⟩ = some (.int .i64 (at_ g k)) := fun w' hb => rd_int (HG3.out.below hb (Nat.le_refl _)) k (by rw [HN0.out]; exact hlt)
        obtain ⟨x, hx⟩ : ∃ x, at_ g k = x := ⟨_, rfl⟩
        rw [hx] at cc HST
        rw [HM.out, btB_eq] at HST
        have CC := Lib.hid cc
        have k0 := cc wr HBL.out
        clear hx cc
        go_wp2_with fail
        refine (rsh_any vn _ l g x wr ((HN.out.below HB3.out (Nat.le_refl _)).below HBL.out (Nat.le_refl _)) (by rw [HN0.out]; exact HG3.out.below HBL.out (Nat.le_refl _))).mono ?_
        rintro e w4 ⟨rfl, hb4⟩
        obtain ⟨sa, hsa⟩ : ∃ s, shB l g x = s := ⟨_, rfl⟩
        rw [hsa] at HST ⊢
        have HB4 := Lib.hid (HBL.out.trans (hb4.mono hsr))
        have hs4 := hb4.size
        clear hsa hb4 k0
        go_wp2_with fail
        refine (rsh_any vn _ l g m w4 ((HN.out.below HB3.out (Nat.le_refl _)).below HB4.out (Nat.le_refl _)) (by rw [HN0.out]; exact HG3.out.below HB4.out (Nat.le_refl _))).mono ?_
        rintro e w5 ⟨rfl, hb5⟩
        obtain ⟨sb, hsb⟩ : ∃ s, shB l g m = s := ⟨_, rfl⟩
        rw [hsb] at HST ⊢
        have HB5 := Lib.hid (HB4.out.trans (hb5.mono (by omega)))
        have k5 := CC.out _ HB5.out
        clear hsb hb5
        go_wp2_with fail
        refine (rload_any vd ld x w5 ((HD.out.below HB3.out (Nat.le_refl _)).below HB5.out (Nat.le_refl _))).mono ?_
        rintro e w6 ⟨rfl, rfl⟩
        obtain ⟨lx, hlx⟩ : ∃ s, loadL ld x = s := ⟨_, rfl⟩
        rw [hlx] at HST ⊢
        clear hlx
        go_wp2_with fail
        refine (rload_any vd ld m w5 ((HD.out.below HB3.out (Nat.le_refl _)).below HB5.out (Nat.le_refl _))).mono ?_
        rintro e w6 ⟨rfl, rfl⟩
        obtain ⟨lm, hlm⟩ : ∃ s, loadL ld m = s := ⟨_, rfl⟩
        rw [hlm] at HST ⊢
        clear hlm
        cases sa with
        | true =>
          cases sb with
          | false =>
            have HR : Hid (maxF (btB l ld g) (g.take (k + 1)) = x) := by rw [HST.out]; exact if_pos rfl
            clear HST
            go_wp2_with fail
            go_roundw
            case rel => exact ⟨k + 1, by omega, by omega, by go_num, by rw [HR.out], HB5.out⟩
            case measure => simp [intOf]; omega
          | true =>
            by_cases h5 : lx > lm
            · have h5b : lm < lx := h5
              have HR : Hid (maxF (btB l ld g) (g.take (k + 1)) = x) := by rw [HST.out]; exact if_pos (by simp [btE, h5b])
              clear HST
              go_wp2_with fail
              go_roundw
              case rel => exact ⟨k + 1, by omega, by omega, by go_num, by rw [HR.out], HB5.out⟩
              case measure => simp [intOf]; omega
            · have h5b : ¬ lm < lx := h5
              by_cases h6 : lx = lm
              · subst h6
                by_cases h7 : x > m
                · have h7b : m < x := h7
                  have HR : Hid (maxF (btB l ld g) (g.take (k + 1)) = x) := by rw [HST.out]; exact if_pos (by simp [btE, h7b])
                  clear HST
                  go_wp2_with fail
                  go_roundw
                  case rel => exact ⟨k + 1, by omega, by omega, by go_num, by rw [HR.out], HB5.out⟩
                  case measure => simp [intOf]; omega
                · have h7b : ¬ m < x := h7
                  have HR : Hid (maxF (btB l ld g) (g.take (k + 1)) = m) := by rw [HST.out]; exact if_neg (by simp [btE]; omega)
                  clear HST
                  go_wp2_with fail
                  go_roundw
                  case rel => exact ⟨k + 1, by omega, by omega, by go_num, by rw [HR.out], HB5.out⟩
                  case measure => simp [intOf]; omega
              · have h6b : (lx == lm) = false := by simpa using h6
                have HR : Hid (maxF (btB l ld g) (g.take (k + 1)) = m) := by rw [HST.out]; exact if_neg (by simp [btE, h6b]; omega)
                clear HST
                go_wp2_with fail
                go_roundw
                case rel => exact ⟨k + 1, by omega, by omega, by go_num, by rw [HR.out], HB5.out⟩
                case measure => simp [intOf]; omega
        | false =>
          cases sb with
          | true =>
            have HR : Hid (maxF (btB l ld g) (g.take (k + 1)) = m) := by rw [HST.out]; exact if_neg (by simp [btE])
            clear HST
            go_wp2_with fail
            go_roundw
            case rel => exact ⟨k + 1, by omega, by omega, by go_num, by rw [HR.out], HB5.out⟩
            case measure => simp [intOf]; omega
          | false =>
            by_cases h5 : lx > lm
            · have h5b : lm < lx := h5
              have HR : Hid (maxF (btB l ld g) (g.take (k + 1)) = x) := by rw [HST.out]; exact if_pos (by simp [btE, h5b])
              clear HST
              go_wp2_with fail
              go_roundw
              case rel => exact ⟨k + 1, by omega, by omega, by go_num, by rw [HR.out], HB5.out⟩
              case measure => simp [intOf]; omega
            · have h5b : ¬ lm < lx := h5
              by_cases h6 : lx = lm
              · subst h6
                by_cases h7 : x > m
                · have h7b : m < x := h7
                  have HR : Hid (maxF (btB l ld g) (g.take (k + 1)) = x) := by rw [HST.out]; exact if_pos (by simp [btE, h7b])
                  clear HST
                  go_wp2_with fail
                  go_roundw
                  case rel => exact ⟨k + 1, by omega, by omega, by go_num, by rw [HR.out], HB5.out⟩
                  case measure => simp [intOf]; omega
                · have h7b : ¬ m < x := h7
                  have HR : Hid (maxF (btB l ld g) (g.take (k + 1)) = m) := by rw [HST.out]; exact if_neg (by simp [btE]; omega)
                  clear HST
                  go_wp2_with fail
                  go_roundw
                  case rel => exact ⟨k + 1, by omega, by omega, by go_num, by rw [HR.out], HB5.out⟩
                  case measure => simp [intOf]; omega
              · have h6b : (lx == lm) = false := by simpa using h6
                have HR : Hid (maxF (btB l ld g) (g.take (k + 1)) = m) := by rw [HST.out]; exact if_neg (by simp [btE, h6b]; omega)
                clear HST
                go_wp2_with fail
                go_roundw
                case rel => exact ⟨k + 1, by omega, by omega, by go_num, by rw [HR.out], HB5.out⟩
                case measure => simp [intOf]; omega
      · obtain rfl : k = n := by omega
        go_wp2_with fail
        have e3 : g.take k = g := by rw [← HN0.out, List.take_length]
        have e4 := HM.out
        rw [e3] at e4
        refine bodyPost_ret (v := .tuple #[.int .i64 m, .bool true]) (by simp [results, Try.results27, go_sem]) rfl ⟨by unfold excT; rw [HE.out, e4]; rfl, HB3.out.trans (HBL.out.mono HB3.out.size)⟩

end Go.Proofs.Ytflndnbjdhbppaa

/- trim.Excess: its contract. -/
import Derived.Test.YtflndnbjdhbppaaTrimX
namespace Go.Proofs.Ytflndnbjdhbppaa
open Go Go.RowKit Go.Maps Go.WideMaps Go.Sort

theorem mid {u b y : Int} {l : List Int} (h : u ∈ b :: l) : u ∈ b :: y :: l := by
  rcases List.mem_cons.1 h with e | e
  · exact e ▸ List.mem_cons_self ..
  · exact List.mem_cons_of_mem _ (List.mem_cons_of_mem _ e)
theorem maxF_congr {f f' : Int → Int → Bool} {g : List Int} (h : ∀ x ∈ g, ∀ y ∈ g, f x y = f' x y) : maxF f g = maxF f' g := by
  cases g with
  | nil => rfl
  | cons x l =>
    have key : ∀ (l : List Int) (b : Int), b ∈ x :: l ∨ True → (∀ u ∈ b :: l, ∀ y ∈ b :: l, f u y = f' u y) → l.foldl (fun b y => if f y b then y else b) b = l.foldl (fun b y => if f' y b then y else b) b := by
      intro l
      induction l with
      | nil => intro b _ _; rfl
      | cons y l ih =>
        intro b _ hb
        rw [List.foldl_cons, List.foldl_cons, hb y (by simp) b (by simp)]
        split
        · exact ih y (.inr trivial) (fun u hu v hv => hb u (List.mem_cons_of_mem _ hu) v (List.mem_cons_of_mem _ hv))
        · exact ih b (.inr trivial) (fun u hu v hv => hb u (mid hu) v (mid hv))
    exact key l x (.inr trivial) h

def optI (o : Option Int) : Value := .tuple #[.int .i64 (o.getD 0), .bool o.isSome]

theorem max_is {l : List Nq} {al : List Int} {ld : List Ld} {g : List Int} (hd : g.Nodup) (hg : ∀ z ∈ g, gB l al z = true) :
    maxF (fun x y => decide (0 < cmT (fun z => decide (1 < (g.map (rackV l)).count (rackV l z))) ld x y)) g = maxF (btB l ld g) g := by
  refine maxF_congr fun x hx y hy => ?_
  unfold cmT btB
  simp only
  rw [cmE_pos, sh_count hd hg hx, sh_count hd hg hy]

set_option maxHeartbeats 4000000 in
set_option maxRecDepth 100000 in
theorem excess_any (c0 c1 c2 : Int) (vh : Value) (h : List Int) (vn : Value) (l : List Nq) (va : Value) (al : List Int) (vd : Value) (ld : List Ld) (want : Int) (w : World) (hnd : h.Nodup) (hl : h.length ≤ 1000) (hll : l.length ≤ 1000) (hH : Rd w 1 vh h.length (h.flatMap inC)) (hN : Rd w 4 vn l.length (l.flatMap noC)) (hA : Rd w 1 va al.length (al.flatMap inC)) (hD : Rd w 2 vd ld.length (ld.flatMap ldC)) :
    Calls Try.prog 26 #[.agg #[.int .i64 c0, .int .i64 c1, .int .u32 c2, vh], vn, va, vd, .int .i64 want] w fun e w' => e = .returned (optI (excT h l al ld want)) ∧ Below w.heap.size w w' := by
  have hmf : ∀ (fn : Fn) (first cap : Array Value) (w : World), (Instr.makeFunc fn first cap).run Try.prog w = .ok (.func fn first cap) w := fun _ _ _ _ => rfl
  have hmm := @run_makeMap Try.prog
  have hsf := fun (w : World) (a : Addr) (m : Mode) (fn : Fn) (first captured : Array Value) => run_store Try.prog w a (.func fn first captured) m rfl
  obtain ⟨A, cap, hv, _, _⟩ := hH.shape
  subst hv
  obtain ⟨An, capn, hvn, _, _⟩ := hN.shape
  subst hvn
  obtain ⟨Ad, capd, hvd, _, _⟩ := hD.shape
  subst hvd
  have HH := Lib.hid hH
  have HN := Lib.hid hN
  have HA := Lib.hid hA
  have HD := Lib.hid hD
  clear hH hA hN hD
  go_enter Try.func26, Try.ntmps26
  go_wp2_with fail
  have hal := below3 w (.cells #[.int .i64 c0, .int .i64 c1, .int .u32 c2, .slice A h.length cap] 39) (.cells #[.slice An l.length capn] 40) (.cells #[.slice Ad ld.length capd] 46)
  have hbc : Bx (((w.alloc (.cells #[.int .i64 c0, .int .i64 c1, .int .u32 c2, .slice A h.length cap] 39)).alloc (.cells #[.slice An l.length capn] 40)).alloc (.cells #[.slice Ad ld.length capd] 46)) w.heap.size 39 [.int .i64 c0, .int .i64 c1, .int .u32 c2, .slice A h.length cap] :=
    ((Bx.new w 39 [.int .i64 c0, .int .i64 c1, .int .u32 c2, .slice A h.length cap]).alloc _).alloc _
  have hbx : Bx (((w.alloc (.cells #[.int .i64 c0, .int .i64 c1, .int .u32 c2, .slice A h.length cap] 39)).alloc (.cells #[.slice An l.length capn] 40)).alloc (.cells #[.slice Ad ld.length capd] 46)) (w.heap.size + 1) 40 [.slice An l.length capn] := by
    have := (Bx.new (w.alloc (.cells #[.int .i64 c0, .int .i64 c1, .int .u32 c2, .slice A h.length cap] 39)) 40 [.slice An l.length capn]).alloc (.cells #[.slice Ad ld.length capd] 46)
    rw [World.size_alloc] at this
    exact this
  have hby : Bx (((w.alloc (.cells #[.int .i64 c0, .int .i64 c1, .int .u32 c2, .slice A h.length cap] 39)).alloc (.cells #[.slice An l.length capn] 40)).alloc (.cells #[.slice Ad ld.length capd] 46)) (w.heap.size + 1 + 1) 46 [.slice Ad ld.length capd] := by
    have := Bx.new ((w.alloc (.cells #[.int .i64 c0, .int .i64 c1, .int .u32 c2, .slice A h.length cap] 39)).alloc (.cells #[.slice An l.length capn] 40)) 46 [.slice Ad ld.length capd]
    rw [World.size_alloc, World.size_alloc] at this
    exact this
  generalize (((w.alloc (.cells #[.int .i64 c0, .int .i64 c1, .int .u32 c2, .slice A h.length cap] 39)).alloc (.cells #[.slice An l.length capn] 40)).alloc (.cells #[.slice Ad ld.length capd] 46)) = w1 at *
  refine (good_any c0 c1 c2 _ h _ l va al w1 hl hll (HH.out.below hal (Nat.le_refl _)) (HN.out.below hal (Nat.le_refl _)) (HA.out.below hal (Nat.le_refl _))).mono ?_
  rintro e w2 ⟨v2, rfl, ho2, hb2⟩
  obtain ⟨A2, cap2, hv2⟩ := ho2.slice_
  subst hv2
  have hgl := goodL_len h l al
  have hge := goodL_eq h l al
  obtain ⟨g, hg⟩ : ∃ g, goodL h l al = g := ⟨_, rfl⟩
  rw [hg] at ho2 hgl hge ⊢
  obtain ⟨n, hn⟩ : ∃ n, g.length = n := ⟨_, rfl⟩
  rw [hn] at ho2 hgl ⊢
  have HN0 := Lib.hid hn
  have HGE := Lib.hid hge
  have HG2 := Lib.hid ho2.rd
  have HB2 := Lib.hid (below_then hal hb2)
  have HC2 := Lib.hid (hbc.below' hb2)
  have HX2 := Lib.hid (hbx.below' hb2)
  have HY2 := Lib.hid (hby.below' hb2)
  clear hal hbc hbx hby ho2 hb2 hg hge hn
  obtain ⟨q0, q1, q2, q3⟩ := HC2.out.four
  have r0 := HX2.out.cell 0
  simp only [List.getElem?_cons_zero] at r0
  by_cases h1 : want < 1
  · have HE := Lib.hid (excL_few (G := gB l al) (I := iB l al) (bt := btB l ld) (h := h) (want := want) (.inl h1))
    go_wp2_with fail
    refine bodyPost_ret (v := .tuple #[.int .i64 0, .bool false]) (by simp [results, Try.results26, go_sem]) rfl ⟨by unfold excT; rw [HE.out]; rfl, HB2.out⟩
  by_cases h2 : (n : Int) < want
  · have HE := Lib.hid (excL_few (G := gB l al) (I := iB l al) (bt := btB l ld) (h := h) (want := want) (.inr (by rw [← HGE.out, HN0.out]; exact h2)))
    go_wp2_with fail
    refine bodyPost_ret (v := .tuple #[.int .i64 0, .bool false]) (by simp [results, Try.results26, go_sem]) rfl ⟨by unfold excT; rw [HE.out]; rfl, HB2.out⟩
  have HW := Lib.hid (show ¬ (want < 1 ∨ ((h.filter (gB l al)).length : Int) < want) from fun hh => hh.elim h1 (by rw [← HGE.out, HN0.out]; exact h2))
  go_wp2_with fail
  refine (idle_any c0 c1 c2 _ h _ l va al w2 hl hll (HH.out.below HB2.out (Nat.le_refl _)) (HN.out.below HB2.out (Nat.le_refl _)) (HA.out.below HB2.out (Nat.le_refl _))).mono ?_
  rintro e w3 ⟨v3, rfl, ho3, hb3⟩
  obtain ⟨A3, cap3, hv3⟩ := ho3.slice_
  subst hv3
  have hil : (idlL h l al).length ≤ h.length := List.length_filter_le _ _
  have hid : idlL h l al = h.filter (iB l al) := rfl
  obtain ⟨ix, hix⟩ : ∃ g, idlL h l al = g := ⟨_, rfl⟩
  rw [hix] at ho3 hid hil ⊢
  have HI3 := Lib.hid ho3.rd
  have HB3 := Lib.hid (below_then HB2.out hb3)
  have HG3 := Lib.hid (HG2.out.below hb3 (Nat.le_refl _))
  have HX3 := Lib.hid (HX2.out.below' hb3)
  have HY3 := Lib.hid (HY2.out.below' hb3)
  have HID := Lib.hid hid
  clear ho3 hb3 hid hix q0 q1 q2 q3 HC2 HX2 HY2 HG2 r0
  cases ix with
  | cons x t =>
    have HE := Lib.hid (excL_idle (G := gB l al) (I := iB l al) (bt := btB l ld) (h := h) (want := want) HW.out (x := x) (t := t) HID.out.symm)
    have hR := HI3.out
    simp only [List.length_cons] at hR hil ⊢
    obtain ⟨b0, off0, hA0, hbl0⟩ := hR.addr (by omega)
    subst hA0
    have d0 : w3.cell? ⟨b0, off0, none⟩ = some (.int .i64 x) := by have := rd_int hR 0 (by simp); simpa [at_] using this
    clear hR
    have hcI : ((t.length + 1 : Nat) : Int) > 0 := by omega
    generalize t.length + 1 = m at *
    go_wp2_with fail
    refine bodyPost_ret (v := .tuple #[.int .i64 x, .bool true]) (by simp [results, Try.results26, go_sem]) rfl ⟨by unfold excT; rw [HE.out]; rfl, HB3.out⟩
  | nil =>
    simp only [List.length_nil]
    by_cases h3 : (n : Int) = want
    · have HE := Lib.hid (excL_just (G := gB l al) (I := iB l al) (bt := btB l ld) (h := h) (want := want) HID.out.symm (by rw [← HGE.out, HN0.out]; exact h3))
      have h3' : ((n : Int) == want) = true := by simpa using h3
      clear h3
      go_wp2_with fail
      refine bodyPost_ret (v := .tuple #[.int .i64 0, .bool false]) (by simp [results, Try.results26, go_sem]) rfl ⟨by unfold excT; rw [HE.out]; rfl, HB3.out⟩
    have HE := Lib.hid (excL_more (G := gB l al) (I := iB l al) (bt := btB l ld) (h := h) (want := want) HW.out HID.out.symm (by rw [← HGE.out, HN0.out]; exact h3))
    have h3' : ((n : Int) == want) = false := by simpa using h3
    have hn0 : 0 < n := by omega
    clear h3
    go_wp2_with fail
    have hal4 := below2 w3 (.map #[] 0) (.cells #[.map (some w3.heap.size)] 71)
    have hm4 : CntM ((w3.alloc (.map #[] 0)).alloc (.cells #[.map (some w3.heap.size)] 71)) w3.heap.size 0 [] := by
      refine CntM.below (w := w3.alloc (.map #[] 0)) ⟨.map [], World.ownsMap_made _ _ _ _, fun r => rfl⟩ (below_one _ _)
    have hb4 : Bx ((w3.alloc (.map #[] 0)).alloc (.cells #[.map (some w3.heap.size)] 71)) (w3.heap.size + 1) 71 [.map (some w3.heap.size)] := by
      have := Bx.new (w3.alloc (.map #[] 0)) 71 [.map (some w3.heap.size)]
      rw [World.size_alloc] at this
      exact this
    have HGN : Hid (∀ z ∈ g, gB l al z = true) := fun z hz => by rw [HGE.out] at hz; exact (List.mem_filter.1 hz).2
    have HGD : Hid g.Nodup := by have : g.Nodup := by rw [HGE.out]; exact hnd.sublist List.filter_sublist
                                 exact this
    generalize ((w3.alloc (.map #[] 0)).alloc (.cells #[.map (some w3.heap.size)] 71)) = w4 at *
    have HAL4 := Lib.hid hal4
    have HM4 := Lib.hid hm4
    have HBM4 := Lib.hid hb4
    obtain ⟨mb, hmb⟩ : ∃ mb, w3.heap.size = mb := ⟨_, rfl⟩
    rw [hmb] at HM4 HBM4 HAL4 ⊢
    have HMB := Lib.hid hmb
    clear hal4 hm4 hb4 hmb
    have HNB := Lib.hid (HN.out.below HB3.out (Nat.le_refl _))
    go_loopw [47] (fun s47 wr => ∃ k : Nat, k ≤ n ∧ s47 = .int .i64 k ∧ CntM wr mb k ((g.take k).map (rackV l)) ∧ Bx wr (mb + 1) 71 [.map (some mb)] ∧ Below mb w3 wr) (fun s47 _ => n - (intOf s47).toNat)
    case atStart => exact ⟨0, Nat.zero_le _, rfl, by rw [List.take_zero]; exact HM4.out, HBM4.out, HAL4.out⟩
    case round =>
      obtain ⟨k, hk, rfl, hcm, hbm, hbel⟩ := hrel
      have HCM := Lib.hid hcm
      have HBM := Lib.hid hbm
      have HBL := Lib.hid hbel
      by_cases hlt : k < n
      · have hltI : (k : Int) < (n : Int) := by omega
        have hG1 := HG3.out.below HBL.out (Nat.le_of_eq HMB.out)
        obtain ⟨bg, og, e1, hbgl⟩ := hG1.addr (by omega)
        subst e1
        have c0 := rd_int hG1 k (by rw [HN0.out]; exact hlt)
        have htk := take_at (l := g) (i := k) (by rw [HN0.out]; exact hlt)
        obtain ⟨z, hz⟩ : ∃ z, at_ g k = z := ⟨_, rfl⟩
        rw [hz] at c0 htk
        have HTK := Lib.hid htk
        have m0 := hbm.cell 0
        have x0 := (HX3.out.below hbel (by rw [← HMB.out]; exact HX3.out.lt)).cell 0
        simp only [List.getElem?_cons_zero] at m0 x0
        have F0 := fun d os => cell_regrown m0 d os
        have F1 := fun d os => cell_regrown x0 d os
        have CR := fun (w' : World) (hb : Below wr.heap.size wr w') => rack_any (.slice An l.length capn) l z w' hll ((HNB.out.below HBL.out (Nat.le_of_eq HMB.out)).below hb (Nat.le_refl _))
        have HW2 := Lib.hid (rackV_wf l z)
        obtain ⟨r, hr⟩ : ∃ r, rackV l z = r := ⟨_, rfl⟩
        rw [hr] at HW2 CR
        have HR2 := Lib.hid hr
        clear hz hcm hbm hbel hG1 htk hr
        go_wp2_with fail
        refine wp_region_quiet_tail (C := fun w' => ∃ p : Regrown, w' = Go.Sort.grow (redrawn wr p.d) p.os) 4 (by kernel_rfl) (by kernel_rfl) ⟨⟨wr.drawn + 1, #[]⟩, by rw [grow_empty]; rfl⟩ ?_
        simp only [List.take_succ_cons, List.take_zero, List.drop_succ_cons, List.drop_zero]
        repeat (go_big_quiet_step ((go_at_call 45; exact Calls.regrown_of (CR _ (below_regrown _ _ _)))))
        refine wpQuiet_nil ?_
        intro _ hw'
        obtain ⟨⟨dd, os⟩, hw''⟩ := hw'
        subst hw''
        have HB5 := Lib.hid (below_regrown wr dd os)
        have HO5 := Lib.hid (HCM.out.below HB5.out)
        have HBM5 := Lib.hid (HBM.out.below' HB5.out)
        clear F0 F1 CR m0 x0 c0
        generalize Go.Sort.grow (redrawn wr dd) os = w5 at *
        obtain ⟨cnt, hcnt⟩ : ∃ c, ((g.take k).map (rackV l)).count r = c := ⟨_, rfl⟩
        have hcl : cnt ≤ 1000 := by rw [← hcnt]; refine Nat.le_trans List.count_le_length ?_; rw [List.length_map, List.length_take]; omega
        have HCN := Lib.hid hcnt
        clear hcnt
        have HWF := Lib.hid (WalkArith.wf_i64 (n := (cnt : Int) + 1) (by omega))
        have hO5 := HO5.out
        obtain ⟨D, hD1, hD2⟩ := hO5
        have HD1 := Lib.hid hD1
        have HD2 := Lib.hid hD2
        clear hD1 hD2
        go_wp2_with (first | (at_lookup; refine wpList_lookup_cnt _ rfl _ _ rfl mb k _ rfl HO5.out r rfl HW2.out ?_; rw [HCN.out]) | (at_mapUpdate; refine wpList_mapUpdate_own _ rfl _ _ _ 71 rfl 3 3 lawInt Try.underlying71 (plainElem (H := Unit) Try.prog 3) mb k D rfl HD1.out (by unfold maxLen; omega) _ _ _ rfl rfl (keyOf_int_mk Try.underlying3 HW2.out) _ [] (plainElem_int Try.underlying3 HWF.out) ?_; intro w6 hown6 hgrow6))
        go_roundw
        case rel =>
          refine ⟨k + 1, by omega, by go_num, ?_, ?_, ?_⟩
          · rw [HTK.out, List.map_append, List.map_cons, List.map_nil, HR2.out]
            refine ⟨_, hown6, ?_⟩
            have := cnt_step (World.ownsMap.isMap HD1.out) HD2.out r
            rw [HCN.out] at this
            exact this
          · exact (hgrow6.block _ HBM5.out.lt (by simp)).trans HBM5.out
          · exact (HBL.out.trans (HB5.out.mono (by have := HCM.out.lt; omega))).grown hgrow6 (by have := HO5.out.lt; omega) (fun j hj => by cases hj; exact Nat.le_refl _)
        case measure => simp [intOf]; omega
      · obtain rfl : k = n := by omega
        have HTL : Hid (g.take k = g) := by have : g.take k = g := by rw [← HN0.out, List.take_length]
                                            exact this
        rw [HTL.out] at HCM
        clear hcm hbm hbel
        go_wp2_with fail
        have hal6 := below_one wr (.cells #[.func (.func 46) #[] #[.pointer (some ⟨mb + 1, 0, none⟩), .pointer (some ⟨w.heap.size + 1, 0, none⟩)]] 69)
        have hbs6 := Bx.new wr 69 [.func (.func 46) #[] #[.pointer (some ⟨mb + 1, 0, none⟩), .pointer (some ⟨w.heap.size + 1, 0, none⟩)]]
        change Bx (wr.alloc (.cells #[.func (.func 46) #[] #[.pointer (some ⟨mb + 1, 0, none⟩), .pointer (some ⟨w.heap.size + 1, 0, none⟩)]] 69)) _ _ _ at hbs6
        generalize (wr.alloc (.cells #[.func (.func 46) #[] #[.pointer (some ⟨mb + 1, 0, none⟩), .pointer (some ⟨w.heap.size + 1, 0, none⟩)]] 69)) = w6 at *
        have hB36 : Below w3.heap.size w3 w6 := by rw [HMB.out]; exact HBL.out.trans (hal6.mono (by have := HCM.out.lt; omega))
        have hS := sh1_any w6 (mb + 1) (w.heap.size + 1) mb k (g.map (rackV l)) (.slice An l.length capn) l hll (HBM.out.below' hal6) (HX3.out.below' hB36) (HCM.out.below hal6) (HNB.out.below hB36 (Nat.le_refl _))
        have hC := cm2_any w6 wr.heap.size (w.heap.size + 1 + 1) _ _ _ (.slice Ad ld.length capd) ld hbs6 (HY3.out.below' hB36) hS ((HD.out.below HB3.out (Nat.le_refl _)).below hB36 (Nat.le_refl _))
        have hR6 := HG3.out.below hB36 (Nat.le_refl _)
        have HB6 := Lib.hid (below_then HB3.out hB36)
        have HC := Lib.hid hC
        have HR6 := Lib.hid hR6
        clear hal6 hbs6 hB36 hS hC hR6
        refine (maxF_any (.slice A2 k cap2) g _ _ _ w6 (by rw [HN0.out]; exact hn0) (by rw [HN0.out]; exact HR6.out) HC.out).mono ?_
        rintro e w7 ⟨rfl, hb7⟩
        have HB7 := Lib.hid (below_then HB6.out hb7)
        rw [max_is HGD.out HGN.out]
        have HE2 := HE.out
        rw [← HGE.out] at HE2
        obtain ⟨m, hm⟩ : ∃ m, maxF (btB l ld g) g = m := ⟨_, rfl⟩
        rw [hm] at HE2 ⊢
        have HE3 := Lib.hid HE2
        clear hb7 HE2 hm HE
        go_wp2_with fail
        refine bodyPost_ret (v := .tuple #[.int .i64 m, .bool true]) (by simp [results, Try.results26, go_sem]) rfl ⟨by unfold excT; rw [HE3.out]; rfl, HB7.out⟩

end Go.Proofs.Ytflndnbjdhbppaa

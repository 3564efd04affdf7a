/- The closures of trim.Excess, slices.MaxFunc with one of them: their contracts. -/
import Derived.Test.YtflndnbjdhbppaaTrimI
import Derived.Test.YtflndnbjdhbppaaNodesR
import Derived.Test.YtflndnbjdhbppaaBase2
namespace Go.Proofs.Ytflndnbjdhbppaa
open Go Go.RowKit Go.Maps Go.WideMaps Go.Sort

theorem rackV_range (l : List Nq) (z : Int) : 0 ≤ rackV l z ∧ rackV l z ≤ 8 := by
  unfold rackV
  cases h : (findL l z).map (·.2.1) with
  | none => simp
  | some r =>
    have := rackOf_range (l := l) (id := z) (r := r) h
    simp only [Option.getD_some]
    omega
theorem rackV_wf (l : List Nq) (z : Int) : (Lit.int .i64 (rackV l z)).wf = true := WalkArith.wf_i64 (by have := rackV_range l z; omega)

theorem sameB {P : Program} {f : FuncId} {args : Array Value} {w : World} {v : Value} (h : Calls P f args w fun e w' => e = .returned v ∧ w = w') : Calls P f args w fun e w' => e = .returned v ∧ Below w.heap.size w w' :=
  h.mono fun _ _ ⟨he, hw⟩ => ⟨he, by subst hw; exact Below.refl _ _⟩

/-- The map of how often each rack stands. -/
def CntM (w : World) (b n : Nat) (rs : List Int) : Prop := ∃ D : DataW Unit, w.ownsMap Try.prog 3 (plainElem (H := Unit) Try.prog 3) b n D ∧ ∀ r : Int, D.atKey (.int .i64 r) (.lit (.int .i64 0)) = .lit (.int .i64 (rs.count r))
theorem CntM.below {w w' : World} {b n : Nat} {rs : List Int} (h : CntM w b n rs) (hb : Below w.heap.size w w') : CntM w' b n rs := by
  obtain ⟨D, h1, h2⟩ := h
  exact ⟨D, ownsMap_below h1 hb, h2⟩
theorem CntM.lt {w : World} {b n : Nat} {rs : List Int} (h : CntM w b n rs) : b < w.heap.size := by
  obtain ⟨D, h1, h2⟩ := h
  exact h1.lt

theorem wpList_lookup_cnt {ops : Array Oper} {rest : List Oper} {o : Oper} {a : Act} {Q : Exit → Act → World → Prop} (w : World) (hg : o.guard = none) (m x : Operand) (hop : o.op = Op.lookup 71 m x false)
    (b n : Nat) (rs : List Int) (hm : a.eval m = .map (some b)) (hown : CntM w b n rs) (r : Int) (hx : a.eval x = .int .i64 r) (hr : (Lit.int .i64 r).wf = true) (hK : wpList Try.prog ops Q rest (a.put o.dst (.int .i64 (rs.count r))) w) :
    wpList Try.prog ops Q (o :: rest) a w := by
  obtain ⟨D, h1, h2⟩ := hown
  refine wpList_lookup_own_int w hg m x 71 hop 3 3 .i64 lawInt Try.underlying71 Try.underlying3 (by kernel_rfl) b n D hm h1 _ _ hx (keyOf_int_mk Try.underlying3 hr) ?_
  intro c hat _
  rw [h2 r] at hat
  have hc : (rs.count r : Int) = c := by
    have := DataW.lit.inj hat
    exact (Lit.int.inj this).2
  rw [← hc]
  exact hK

theorem cnt_step {D : DataW Unit} {rs : List Int} (hm : IsMap D) (h : ∀ r : Int, D.atKey (.int .i64 r) (.lit (.int .i64 0)) = .lit (.int .i64 (rs.count r))) (x : Int) :
    ∀ r : Int, (D.put (.int .i64 x) (.lit (.int .i64 ((rs.count x : Int) + 1)))).atKey (.int .i64 r) (.lit (.int .i64 0)) = .lit (.int .i64 ((rs ++ [x]).count r)) := by
  intro r
  by_cases e : r = x
  · subst e
    rw [atKey_put_same hm (show WideAt.IsKeyLit (.int .i64 r) from trivial)]
    simp
  · rw [atKey_put_other (by intro h; exact e (by cases h; rfl)), h]
    have e' : ¬ x = r := fun h => e h.symm
    simp [e, e']

/-- trim.Excess$1: does another one stand on one's rack? -/
def Sh1 (w : World) (c1 c2 : Value) (p : Int → Bool) : Prop := ∀ (z : Int) (W : World), Below w.heap.size w W → Calls Try.prog 46 #[.int .i64 z, c1, c2] W fun e w' => e = .returned (.bool (p z)) ∧ Below W.heap.size W w'

set_option maxHeartbeats 1000000 in
theorem sh1_any (w : World) (bm bx mb mn : Nat) (rs : List Int) (vn : Value) (l : List Nq) (hl : l.length ≤ 1000) (hbm : Bx w bm 71 [.map (some mb)]) (hbx : Bx w bx 40 [vn]) (hC : CntM w mb mn rs) (hN : Rd w 4 vn l.length (l.flatMap noC)) :
    Sh1 w (.pointer (some ⟨bm, 0, none⟩)) (.pointer (some ⟨bx, 0, none⟩)) (fun z => decide (1 < rs.count (rackV l z))) := by
  intro z W hbel
  have c0 := (hbm.below' hbel).cell 0
  have d0 := (hbx.below' hbel).cell 0
  simp only [List.getElem?_cons_zero] at c0 d0
  have F0 := fun d os => cell_regrown c0 d os
  have F1 := fun d os => cell_regrown d0 d os
  obtain ⟨A, cap, hv, _, _⟩ := hN.shape
  subst hv
  have HN := Lib.hid (hN.below hbel (Nat.le_refl _))
  have HC := Lib.hid (hC.below hbel)
  have CR := fun (w' : World) (hb : Below W.heap.size W w') => rack_any (.slice A l.length cap) l z w' hl (HN.out.below hb (Nat.le_refl _))
  have HW := Lib.hid (rackV_wf l z)
  obtain ⟨r, hr⟩ : ∃ r, rackV l z = r := ⟨_, rfl⟩
  simp only
  rw [hr] at HW CR ⊢
  clear hbm hbx hN hC hbel c0 d0 hr
  go_enter Try.func46, Try.ntmps46
  go_wp2_with fail
  refine wp_region_quiet_tail (C := fun w' => ∃ p : Regrown, w' = Go.Sort.grow (redrawn W p.d) p.os) 4 (by kernel_rfl) (by kernel_rfl) ⟨⟨W.drawn + 1, #[]⟩, by rw [grow_empty]; rfl⟩ ?_
  simp only [List.take_succ_cons, List.take_zero, List.drop_succ_cons, List.drop_zero]
  repeat (go_big_quiet_step ((go_at_call 45; exact Calls.regrown_of (CR _ (below_regrown _ _ _)))))
  refine wpQuiet_nil ?_
  intro _ hw'
  obtain ⟨⟨dd, os⟩, hw''⟩ := hw'
  subst hw''
  have HB1 := Lib.hid (below_regrown W dd os)
  have HO1 := Lib.hid (HC.out.below HB1.out)
  clear F0 F1 CR HC HN
  generalize Go.Sort.grow (redrawn W dd) os = w1 at *
  go_wp2_with (at_lookup; refine wpList_lookup_cnt _ rfl _ _ rfl mb mn rs rfl HO1.out r rfl HW.out ?_)
  go_ret
  exact ⟨by simp; omega, HB1.out⟩

def cmE (sa sb : Bool) (la lb a b : Int) : Int := if sa != sb then (if sa then 1 else -1) else orI [cmpI la lb, cmpI a b]
def cmT (p : Int → Bool) (ld : List Ld) (a b : Int) : Int := cmE (p a) (p b) (loadL ld a) (loadL ld b) a b

/-- trim.Excess$2: the order by which the greatest goes. -/
def Cm2 (w : World) (c1 c2 : Value) (f : Int → Int → Int) : Prop := ∀ (a b : Int) (W : World), Below w.heap.size w W → Calls Try.prog 48 #[.int .i64 a, .int .i64 b, c1, c2] W fun e w' => e = .returned (.int .i64 (f a b)) ∧ Below W.heap.size W w'

set_option maxHeartbeats 2000000 in
set_option maxRecDepth 100000 in
theorem cm2_any (w : World) (bs bl : Nat) (c1 c2 : Value) (p : Int → Bool) (vd : Value) (ld : List Ld) (hbs : Bx w bs 69 [.func (.func 46) #[] #[c1, c2]]) (hbl : Bx w bl 46 [vd]) (hS : Sh1 w c1 c2 p) (hD : Rd w 2 vd ld.length (ld.flatMap ldC)) :
    Cm2 w (.pointer (some ⟨bs, 0, none⟩)) (.pointer (some ⟨bl, 0, none⟩)) (cmT p ld) := by
  intro a b W hbel
  have c0 := (hbs.below' hbel).cell 0
  have d0 := (hbl.below' hbel).cell 0
  simp only [List.getElem?_cons_zero] at c0 d0
  have F0 := fun d os => cell_regrown c0 d os
  obtain ⟨Ad, capd, hv, _, _⟩ := hD.shape
  subst hv
  have HD := Lib.hid (hD.below hbel (Nat.le_refl _))
  have HBW := Lib.hid hbel
  have HS := Lib.hid hS
  have CA := fun (w' : World) (hb : Below W.heap.size W w') => HS.out a w' (below_then HBW.out hb)
  have CB := fun (w' : World) (hb : Below W.heap.size W w') => HS.out b w' (below_then HBW.out hb)
  have LA := fun (w' : World) (hb : Below W.heap.size W w') => load_any (.slice Ad ld.length capd) ld a w' (HD.out.below hb (Nat.le_refl _))
  have LB := fun (w' : World) (hb : Below W.heap.size W w') => load_any (.slice Ad ld.length capd) ld b w' (HD.out.below hb (Nat.le_refl _))
  have hcm : cmT p ld a b = cmE (p a) (p b) (loadL ld a) (loadL ld b) a b := rfl
  rw [hcm]
  obtain ⟨sa, hsa⟩ : ∃ s, p a = s := ⟨_, rfl⟩
  obtain ⟨sb, hsb⟩ : ∃ s, p b = s := ⟨_, rfl⟩
  obtain ⟨la, hla⟩ : ∃ s, loadL ld a = s := ⟨_, rfl⟩
  obtain ⟨lb, hlb⟩ : ∃ s, loadL ld b = s := ⟨_, rfl⟩
  rw [hsa] at CA ⊢
  rw [hsb] at CB ⊢
  rw [hla] at LA ⊢
  rw [hlb] at LB ⊢
  have D0 := Lib.hid d0
  clear hbs hbl hS hD hbel c0 d0 hcm hsa hsb hla hlb
  have HB0 : Hid (Below W.heap.size W W) := Lib.hid (Below.refl _ _)
  go_enter Try.func48, Try.ntmps48
  go_wp2_with fail
  have hss : sa = sb ∨ (sa = true ∧ sb = false) ∨ (sa = false ∧ sb = true) := by cases sa <;> cases sb <;> simp
  rcases hss with rfl | ⟨rfl, rfl⟩ | ⟨rfl, rfl⟩
  · have hne : (sa != sa) = false := by cases sa <;> rfl
    have hcc : cmE sa sa la lb a b = orI [cmpI la lb, cmpI a b] := by cases sa <;> rfl
    have HCC := Lib.hid hcc
    clear hcc
    refine wp_region_quiet_below (by kernel_rfl) (by kernel_rfl) ?_
    repeat (go_big_quiet_step (fail))
    go_big_quiet_step ((go_at_call 46; exact Calls.regrown_of (CA _ (below_regrown _ _ _))))
    repeat (go_big_quiet_step (fail))
    go_big_quiet_step ((go_at_call 46; exact Calls.regrown_of (CB _ (below_regrown _ _ _))))
    repeat (go_big_quiet_step (fail))
    refine wpQuiet_nil ?_
    intro _ hw'
    obtain ⟨⟨dd, os⟩, hw''⟩ := hw'
    subst hw''
    have HB1 := Lib.hid (below_regrown W dd os)
    have c1 := F0 dd os
    have d1 := cell_regrown D0.out dd os
    generalize Go.Sort.grow (redrawn W dd) os = w1 at *
    go_wp2_with fail
    have F1 := fun d os => cell_regrown c1 d os
    refine wp_region_quiet_below (by kernel_rfl) (by kernel_rfl) ?_
    repeat (go_big_quiet_step (fail))
    go_big_quiet_step ((go_at_call 46; exact Calls.regrown_of (CA _ (below_then HB1.out (below_regrown _ _ _)))))
    repeat (go_big_quiet_step (fail))
    go_big_quiet_step ((go_at_call 46; exact Calls.regrown_of (CB _ (below_then HB1.out (below_regrown _ _ _)))))
    repeat (go_big_quiet_step (fail))
    refine wpQuiet_nil ?_
    intro _ hw'
    obtain ⟨⟨dd2, os2⟩, hw''⟩ := hw'
    subst hw''
    have HB2 := Lib.hid (below_then HB1.out (below_regrown w1 dd2 os2))
    have d2 := cell_regrown d1 dd2 os2
    clear F1 c1 d1
    generalize Go.Sort.grow (redrawn w1 dd2) os2 = w2 at *
    go_wp2_with fail
    have F2 := fun d os => cell_regrown d2 d os
    refine wp_region_quiet_tail (C := fun w' => ∃ p : Regrown, w' = Go.Sort.grow (redrawn w2 p.d) p.os) 10 (by kernel_rfl) (by kernel_rfl) ⟨⟨w2.drawn + 1, #[]⟩, by rw [grow_empty]; rfl⟩ ?_
    simp only [List.take_succ_cons, List.take_zero, List.drop_succ_cons, List.drop_zero]
    repeat (go_big_quiet_step (fail))
    go_big_quiet_step ((go_at_call 51; exact Calls.regrown_of (LA _ (below_then HB2.out (below_regrown _ _ _)))))
    repeat (go_big_quiet_step (fail))
    go_big_quiet_step ((go_at_call 51; exact Calls.regrown_of (LB _ (below_then HB2.out (below_regrown _ _ _)))))
    repeat (go_big_quiet_step (fail))
    go_big_quiet_step ((go_at_call 50; exact Calls.regrown_of (sameB (cmp_any la lb _))))
    repeat (go_big_quiet_step (fail))
    go_big_quiet_step ((go_at_call 50; exact Calls.regrown_of (sameB (cmp_any a b _))))
    repeat (go_big_quiet_step (fail))
    refine wpQuiet_nil ?_
    intro _ hw'
    obtain ⟨⟨dd3, os3⟩, hw''⟩ := hw'
    subst hw''
    have HB3 := Lib.hid (below_then HB2.out (below_regrown w2 dd3 os3))
    clear F2 d2
    generalize Go.Sort.grow (redrawn w2 dd3) os3 = w3 at *
    go_wp2_with fail
    refine (or_any w3.heap.size 0 2 [cmpI la lb, cmpI a b] _ (by simp) ?_).mono ?_
    · intro j hj
      match j, hj with
      | 0, _ => rw [World.cell?_alloc_at _ _ _ _ (by simp)]; rfl
      | 1, _ => rw [World.cell?_alloc_at _ _ _ _ (by simp)]; rfl
    rintro e w4 ⟨rfl, rfl⟩
    go_wp2_with fail
    go_ret
    exact ⟨by rw [HCC.out]; rfl, below_then HB3.out (below_one _ _)⟩
  · refine wp_region_quiet_below (by kernel_rfl) (by kernel_rfl) ?_
    repeat (go_big_quiet_step (fail))
    go_big_quiet_step ((go_at_call 46; exact Calls.regrown_of (CA _ (below_regrown _ _ _))))
    repeat (go_big_quiet_step (fail))
    go_big_quiet_step ((go_at_call 46; exact Calls.regrown_of (CB _ (below_regrown _ _ _))))
    repeat (go_big_quiet_step (fail))
    go_big_quiet_step ((go_at_call 46; exact Calls.regrown_of (CA _ (below_regrown _ _ _))))
    repeat (go_big_quiet_step (fail))
    refine wpQuiet_nil ?_
    intro _ hw'
    obtain ⟨⟨dd, os⟩, hw''⟩ := hw'
    subst hw''
    have HB1 := Lib.hid (below_regrown W dd os)
    have c1 := F0 dd os
    have d1 := cell_regrown D0.out dd os
    generalize Go.Sort.grow (redrawn W dd) os = w1 at *
    go_wp2_with fail
    go_ret
    exact ⟨rfl, HB1.out⟩
  · refine wp_region_quiet_below (by kernel_rfl) (by kernel_rfl) ?_
    repeat (go_big_quiet_step (fail))
    go_big_quiet_step ((go_at_call 46; exact Calls.regrown_of (CA _ (below_regrown _ _ _))))
    repeat (go_big_quiet_step (fail))
    go_big_quiet_step ((go_at_call 46; exact Calls.regrown_of (CB _ (below_regrown _ _ _))))
    repeat (go_big_quiet_step (fail))
    go_big_quiet_step ((go_at_call 46; exact Calls.regrown_of (CA _ (below_regrown _ _ _))))
    repeat (go_big_quiet_step (fail))
    refine wpQuiet_nil ?_
    intro _ hw'
    obtain ⟨⟨dd, os⟩, hw''⟩ := hw'
    subst hw''
    have HB1 := Lib.hid (below_regrown W dd os)
    have c1 := F0 dd os
    have d1 := cell_regrown D0.out dd os
    generalize Go.Sort.grow (redrawn W dd) os = w1 at *
    go_wp2_with fail
    have F1 := fun d os => cell_regrown c1 d os
    refine wp_region_quiet_below (by kernel_rfl) (by kernel_rfl) ?_
    repeat (go_big_quiet_step (fail))
    go_big_quiet_step ((go_at_call 46; exact Calls.regrown_of (CA _ (below_then HB1.out (below_regrown _ _ _)))))
    repeat (go_big_quiet_step (fail))
    go_big_quiet_step ((go_at_call 46; exact Calls.regrown_of (CB _ (below_then HB1.out (below_regrown _ _ _)))))
    repeat (go_big_quiet_step (fail))
    refine wpQuiet_nil ?_
    intro _ hw'
    obtain ⟨⟨dd2, os2⟩, hw''⟩ := hw'
    subst hw''
    have HB2 := Lib.hid (below_then HB1.out (below_regrown w1 dd2 os2))
    have d2 := cell_regrown d1 dd2 os2
    clear F1 c1 d1
    generalize Go.Sort.grow (redrawn w1 dd2) os2 = w2 at *
    go_wp2_with fail
    go_ret
    exact ⟨rfl, HB2.out⟩

end Go.Proofs.Ytflndnbjdhbppaa

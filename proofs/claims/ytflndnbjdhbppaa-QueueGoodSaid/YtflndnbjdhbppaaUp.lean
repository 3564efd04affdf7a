/- The queue's heap in memory; (*heap).up moves the last one up to its place. -/
import Derived.Test.YtflndnbjdhbppaaUrg
import Derived.Test.YtflndnbjdhbppaaHeapM
import Derived.Test.YtflndnbjdhbppaaFlat
import Derived.ScopeJumps
import Derived.Outline
import Derived.BigRegion
namespace Go.Proofs.Ytflndnbjdhbppaa
open Go Go.RowKit

def ndC (x : Nd) : List Value := [.int .i64 x.1, .int .i64 x.2.1, .int .i64 x.2.2]
theorem ndC_len (x : Nd) : (ndC x).length = 3 := rfl

theorem ints3 (a b c : Int) : (#[.int .i64 a, .int .i64 b, .int .i64 c] : Array Value).all (·.oneCell') = true := by simp [Value.oneCell']

structure HpAt (w : World) (base q : Nat) (v : Value) (d : List Nd) : Prop where
  at_ : w.heap[q]? = some (.cells #[v, .func (.func 19) #[] #[]] 64 (0, 0))
  base_ : base ≤ q
  own : Own w base 27 3 v d.length (d.flatMap ndC)

theorem HpAt.lt {w : World} {base q : Nat} {v : Value} {d : List Nd} (h : HpAt w base q v d) : q < w.heap.size := (Array.getElem?_eq_some_iff.1 h.at_).1
theorem HpAt.c0 {w : World} {base q : Nat} {v : Value} {d : List Nd} (h : HpAt w base q v d) : w.cell? ⟨q, 0, none⟩ = some v := by rw [cell_of_row w q 0 _ _ _ h.at_]; rfl
theorem HpAt.c1 {w : World} {base q : Nat} {v : Value} {d : List Nd} (h : HpAt w base q v d) : w.cell? ⟨q, 1, none⟩ = some (.func (.func 19) #[] #[]) := by rw [cell_of_row w q 1 _ _ _ h.at_]; rfl
theorem HpAt.ne {w : World} {base q : Nat} {v : Value} {d : List Nd} (h : HpAt w base q v d) : blk v ≠ some q := by
  intro e
  obtain ⟨cur, hc⟩ := h.own.blk_elem e
  rw [h.at_] at hc
  injection hc with hc
  injection hc with _ h2
  exact absurd h2 (by decide)
theorem HpAt.below {w w' : World} {base q : Nat} {v : Value} {d : List Nd} (h : HpAt w base q v d) (hb : Below w.heap.size w w') : HpAt w' base q v d :=
  ⟨(hb.block q h.lt).trans h.at_, h.base_, h.own.below hb (Nat.le_refl _)⟩
theorem HpAt.fr {w w' : World} {base q : Nat} {v : Value} {d : List Nd} (h : HpAt w base q v d) {S : Nat → Prop} (hb : Fr S w w') (h1 : ¬ S q) (h2 : ∀ g, blk v = some g → ¬ S g) : HpAt w' base q v d :=
  ⟨(hb.block q h.lt h1).trans h.at_, h.base_, h.own.fr hb h2⟩
/-- The cells of one element. -/
theorem own_el {w : World} {base : Nat} {e : TypeId} {g off cap : Nat} {d : List Nd} (h : Own w base e 3 (.slice (some ⟨g, off, none⟩) d.length cap) d.length (d.flatMap ndC)) (i : Nat) (hi : i < d.length) :
    w.cell? ⟨g, off + i * 3, none⟩ = some (.int .i64 (gt d i).1) ∧ w.cell? ⟨g, off + i * 3 + 1, none⟩ = some (.int .i64 (gt d i).2.1) ∧ w.cell? ⟨g, off + i * 3 + 1 + 1, none⟩ = some (.int .i64 (gt d i).2.2) := by
  have hg := gt_get hi
  have f0 := flat_get ndC 3 ndC_len d i 0 (by omega)
  have f1 := flat_get ndC 3 ndC_len d i 1 (by omega)
  have f2 := flat_get ndC 3 ndC_len d i 2 (by omega)
  rw [hg] at f0 f1 f2
  exact ⟨h.cells _ _ f0, h.cells _ _ f1, h.cells _ _ f2⟩
/-- One element stored. -/
theorem own_setEl {w : World} {base : Nat} {e : TypeId} {g off cap : Nat} {d : List Nd} (h : Own w base e 3 (.slice (some ⟨g, off, none⟩) d.length cap) d.length (d.flatMap ndC)) (i : Nat) (hi : i < d.length) (x : Nd) :
    Own (((w.setCell ⟨g, off + i * 3, none⟩ (.int .i64 x.1)).setCell ⟨g, off + i * 3 + 1, none⟩ (.int .i64 x.2.1)).setCell ⟨g, off + i * 3 + 2, none⟩ (.int .i64 x.2.2)) base e 3 (.slice (some ⟨g, off, none⟩) d.length cap) (d.set i x).length ((d.set i x).flatMap ndC) := by
  have h1 := h.set_ (i * 3) (by omega) (.int .i64 x.1)
  have h2 := h1.set_ (i * 3 + 1) (by omega) (.int .i64 x.2.1)
  have h3 := h2.set_ (i * 3 + 2) (by omega) (.int .i64 x.2.2)
  rw [← flat_setL ndC 3 ndC_len (by omega) d i x hi, List.length_set]
  exact h3

def frUp (s0 s2 : Value) (u : Nat → Value) : Act := ⟨#[s0, u 1, s2, u 3, u 4, u 5, u 6, u 7, u 8, u 9, u 10, u 11, u 12, u 13, u 14, u 15, u 16, u 17, u 18, u 19, u 20, u 21, u 22, u 23, u 24, u 25, u 26, u 27, u 28, u 29, u 30, u 31, u 32, u 33, u 34, u 35, u 36, u 37, u 38, u 39, u 40, u 41, u 42, u 43, u 44, u 45, u 46, u 47, u 48, u 49, u 50, u 51, u 52, u 53, u 54, u 55, u 56, u 57, u 58, u 59, u 60, u 61, u 62], []⟩

/-- What stands at the label: so far so much has been moved. -/
def UpJ (w : World) (base q : Nat) (v : Value) (d : List Nd) (a : Act) (w' : World) : Prop :=
  ∃ (i : Nat) (d' : List Nd), (a.tmps.size = 63 ∧ a.defers = [] ∧ a.tmps.getD 0 undef = .pointer (some ⟨q, 0, none⟩) ∧ a.tmps.getD 2 undef = .int .i64 i) ∧ UpI d' i ∧ d'.Perm d ∧ HpAt w' base q v d' ∧ Fr (fun k => blk v = some k) w w'

def UpE (w : World) (base q : Nat) (v : Value) (d : List Nd) (w' : World) : Prop := ∃ d' : List Nd, d'.Perm d ∧ HO d' ∧ HpAt w' base q v d' ∧ Fr (fun k => blk v = some k) w w'

noncomputable def upRest : Code := match (findLabel (match (Try.f36).body with | some (.scope c) => c | _ => .skip) 0).getD .skip with
  | .seq _ c => c
  | c => c

theorem up_swap {w w1 w2 w3 : World} {base q : Nat} {g off cap : Nat} {d d' : List Nd} {i j n : Nat} (hn : d'.length = n) (hp : d'.Perm d) (hw : HpAt w1 base q (.slice (some ⟨g, off, none⟩) n cap) d') (hf : Fr (fun k => blk (.slice (some ⟨g, off, none⟩) n cap) = some k) w w1) (hi : i < d'.length) (hj : j < d'.length) (hc : 0 < cap)
    (f2 : Fr (fun k => k = g) w1 w2) (f3 : Fr (fun k => k = g) w2 w3) (own : Own w3 base 27 3 (.slice (some ⟨g, off, none⟩) n cap) n (setL (setL (d'.flatMap ndC) (i * 3) (ndC (gt d' j))) (j * 3) (ndC (gt d' i)))) :
    (sw d' i j).Perm d ∧ HpAt w3 base q (.slice (some ⟨g, off, none⟩) n cap) (sw d' i j) ∧ Fr (fun k => blk (.slice (some ⟨g, off, none⟩) n cap) = some k) w w3 := by
  subst hn
  have hbg : blk (.slice (some ⟨g, off, none⟩) d'.length cap) = some g := by
    obtain ⟨c, rfl⟩ : ∃ c, cap = c + 1 := ⟨cap - 1, by omega⟩
    rfl
  have hne := hw.ne
  rw [hbg] at hne
  have hqg : q ≠ g := fun e => hne (by rw [e])
  have F := f2.trans f3 (fun _ h => .inl h)
  rw [flat_setL ndC 3 ndC_len (by omega) d' i _ hi, flat_setL ndC 3 ndC_len (by omega) _ j _ (by rw [List.length_set]; exact hj)] at own
  refine ⟨(sw_perm d' i j hi hj).trans hp, ⟨(F.block q hw.lt hqg).trans hw.at_, hw.base_, ?_⟩, hf.trans F (fun k hk => .inl (by rw [hbg, hk]))⟩
  rw [sw_len]
  exact own

def UpK (w : World) (base q : Nat) (v : Value) (d : List Nd) (m : Nat) (a : Act) (w' : World) : Prop := UpJ w base q v d a w' ∧ (intOf (a.tmps.getD 2 undef)).toNat < m

set_option maxHeartbeats 2000000 in
set_option maxRecDepth 100000 in
theorem up_pass (w : World) (base q : Nat) (v : Value) (d : List Nd) (hd : d.length ≤ 1000) (Q : Exit → Act → World → Prop) (hQ : ∀ a' w', a'.defers = [] → UpE w base q v d w' → Q .normal a' w') (a : Act) (w' : World) (hJ : UpJ w base q v d a w')
    (hG : ∀ a' w', UpK w base q v d (intOf (a.tmps.getD 2 undef)).toNat a' w' → Q (.goto 0) a' w') :
    upRest.wp Try.prog Q a w' := by
  obtain ⟨i, d', ⟨hsz, hdf, hs0, hs2⟩, hI, hp, hH, hF⟩ := hJ
  have hm : (intOf (a.tmps.getD 2 undef)).toNat = i := by rw [hs2]; simp [intOf]
  rw [hm] at hG
  clear hm
  have hfr : a = frUp (a.tmps.getD 0 undef) (a.tmps.getD 2 undef) (fun k => a.tmps.getD k undef) := (act_of_size hsz hdf).trans rfl
  rw [hs0, hs2] at hfr
  generalize (fun k => a.tmps.getD k undef) = u at hfr
  clear hsz hdf hs0 hs2
  subst hfr
  have hn : d'.length = d.length := hp.length_eq
  have hil := hI.1
  obtain ⟨g, off, cap, hv, hnc, hcm, hbg, hgl, hbk⟩ := hH.own.form (by omega)
  subst hv
  unfold frUp upRest
  have hcap0 : 0 < cap := by omega
  have hq := hH.c0
  have hq1 := hH.c1
  obtain ⟨n, hnn⟩ : ∃ n, d'.length = n := ⟨_, rfl⟩
  conv => arg 2; whnf
  by_cases hi0 : i = 0
  · subst hi0
    have he : UpE w base q (.slice (some ⟨g, off, none⟩) d'.length cap) d w' := ⟨d', hp, up_stop hI (.inl rfl), hH, hF⟩
    have HE := Lib.hid he
    clear he
    rw [hnn] at hq hQ HE
    clear hG
    have HH := Lib.hid hH
    have HF := Lib.hid hF
    have HI := Lib.hid hI
    have HQ := Lib.hid hQ
    have HP := Lib.hid hp
    clear hH hF hI hp hQ
    go_wp2_with fail
    go_quiet (fail)
    go_wp2_with fail
    exact HQ.out _ _ rfl ⟨d', HP.out, up_stop HI.out (.inl rfl), by rw [← hnn]; exact HH.out.below (below_drewN (Below.refl _ _) _), by rw [← hnn]; exact HF.out.thenDrewN _⟩
  · have hj0 : (i - 1) / 2 < i := by omega
    obtain ⟨j, hj⟩ : ∃ j, (i - 1) / 2 = j := ⟨_, rfl⟩
    have hjj : ((i : Int) - 1).tdiv 2 = (j : Int) := by
      rw [Int.tdiv_eq_ediv_of_nonneg (by omega)]
      omega
    have hi1 : 0 < i := by omega
    have hji : j < i := by omega
    obtain ⟨ha0, ha1, ha2⟩ := own_el hH.own i hil
    obtain ⟨hb0, hb1, hb2⟩ := own_el hH.own j (by omega)
    have hpos : (0 : Int) < (i : Int) := by omega
    have hin : (i : Int) < (n : Int) := by omega
    have hjn : (j : Int) < (n : Int) := by omega
    have hnb : n ≤ 1000 := by omega
    have hud : urgN (gt d' i) (gt d' j) = true ↔ nlt (gt d' i) (gt d' j) := urgN_iff _ _
    have hus := up_step hI (by omega)
    have hst := fun h => up_stop hI (.inr h)
    rw [hj] at hus hst
    obtain ⟨a0, hx0⟩ : ∃ x, (gt d' i).1 = x := ⟨_, rfl⟩
    obtain ⟨a1, hx1⟩ : ∃ x, (gt d' i).2.1 = x := ⟨_, rfl⟩
    obtain ⟨a2, hx2⟩ : ∃ x, (gt d' i).2.2 = x := ⟨_, rfl⟩
    obtain ⟨b0, hy0⟩ : ∃ x, (gt d' j).1 = x := ⟨_, rfl⟩
    obtain ⟨b1, hy1⟩ : ∃ x, (gt d' j).2.1 = x := ⟨_, rfl⟩
    obtain ⟨b2, hy2⟩ : ∃ x, (gt d' j).2.2 = x := ⟨_, rfl⟩
    have hun : urgN (gt d' i) (gt d' j) = urg a0 a1 a2 b0 b1 b2 := by unfold urgN; rw [hx0, hx1, hx2, hy0, hy1, hy2]
    rw [hx0] at ha0
    rw [hx1] at ha1
    rw [hx2] at ha2
    rw [hy0] at hb0
    rw [hy1] at hb1
    rw [hy2] at hb2
    have HX := Lib.hid (And.intro hx0 (And.intro hx1 (And.intro hx2 (And.intro hy0 (And.intro hy1 hy2)))))
    clear hx0 hx1 hx2 hy0 hy1 hy2
    rw [hnn] at hq hQ hG
    have HG := Lib.hid hG
    clear hG
    have HU := Lib.hid hun
    have HUD := Lib.hid hud
    have HUS := Lib.hid hus
    have HST := Lib.hid hst
    have HJ := Lib.hid hj
    have HH := Lib.hid hH
    have HF := Lib.hid hF
    have HI := Lib.hid hI
    have HQ := Lib.hid hQ
    have HP := Lib.hid hp
    have HN := Lib.hid hnn
    have HN2 := Lib.hid hn
    have F1 := fun d os => cell_regrown hq d os
    have F2 := fun d os => cell_regrown hq1 d os
    have F3 := fun d os => cell_regrown ha0 d os
    have F4 := fun d os => cell_regrown ha1 d os
    have F5 := fun d os => cell_regrown ha2 d os
    have F6 := fun d os => cell_regrown hb0 d os
    have F7 := fun d os => cell_regrown hb1 d os
    have F8 := fun d os => cell_regrown hb2 d os
    clear hun hud hus hst hj hH hF hI hQ hp hnn hn hq hq1 ha0 ha1 ha2 hb0 hb1 hb2 hbk
    go_wp2_with fail
    refine wp_region_quiet_below (by kernel_rfl) (by kernel_rfl) ?_
    repeat (go_big_quiet_step ((go_at_call 19; exact Calls.regrown_of (urgent_any _ _ _ _ _ _ _))))
    refine wpQuiet_nil ?_
    intro _ hw'
    obtain ⟨⟨dd, os⟩, hw''⟩ := hw'
    subst hw''
    have hbw := below_regrown w' dd os
    have G1 := F1 dd os
    have G3 := F3 dd os
    have G4 := F4 dd os
    have G5 := F5 dd os
    have G6 := F6 dd os
    have G7 := F7 dd os
    have G8 := F8 dd os
    clear F1 F2 F3 F4 F5 F6 F7 F8
    generalize Go.Sort.grow (redrawn w' dd) os = w1 at *
    have hH1 := HH.out.below hbw
    have hF1 := HF.out.thenBelow hbw
    have hqg : q ≠ g := fun e => hH1.ne (by rw [e]; obtain ⟨c, rfl⟩ : ∃ c, cap = c + 1 := ⟨cap - 1, by omega⟩; rfl)
    have HH1 := Lib.hid hH1
    have HF1 := Lib.hid hF1
    have HO := Lib.hid (And.intro hil (And.intro hnc (And.intro hj0 hjj)))
    clear hH1 hF1 hbw hil hnc hj0 hjj hd hcm hbg hgl hi0 hi1
    go_wp2_with fail
    · have hu : urg a0 a1 a2 b0 b1 b2 = true := by assumption
      refine wp_region_plan (C := fun w' => ∃ n, w' = World.drewN _ n) [9] 24 (by kernel_rfl) (by kernel_rfl) ⟨1, rfl⟩ ?_
      simp only [List.foldl_cons, List.foldl_nil, List.take_succ_cons, List.take_zero, List.drop_succ_cons, List.drop_zero, List.eraseIdx_cons_succ, List.eraseIdx_cons_zero]
      conv => arg 6; simp [takeMoves, moveOf, Act.put, Act.eval]
      repeat (go_big_quiet_step (fail))
      refine wpQuiet_nil ?_
      intro _ hw'
      obtain ⟨nq, hw''⟩ := hw'
      subst hw''
      have hH2 := HH1.out.own.drewN nq
      rw [HN.out] at hH2
      have HH2 := Lib.hid hH2
      clear hH2
      obtain ⟨x0, x1, x2, y0, y1, y2⟩ := HX.out
      have HY := Lib.hid (And.intro x0 (And.intro x1 (And.intro x2 (And.intro y0 (And.intro y1 y2)))))
      clear x0 x1 x2 y0 y1 y2 HX
      go_wp2_with (with_reducible refine wpList_store_own rfl 27 (.tmp 60) (.tmp 52) rfl HH2.out (i * 3) #[.int .i64 b0, .int .i64 b1, .int .i64 b2] rfl rfl ?h1 hcap0 ?h2 ?h3 ?h4)
      case h1 => have := HO.out.1; have := HN.out; show i * 3 + 3 ≤ n * 3; omega
      case h2 => kernel_rfl
      case h3 => exact ints3 _ _ _
      case h4 =>
        intro w2 own2 fr2
        have O2 := Lib.hid own2
        have FR2 := Lib.hid fr2
        clear own2 fr2
        go_wp2_with (with_reducible refine wpList_store_own rfl 27 (.tmp 61) (.tmp 59) rfl O2.out (j * 3) #[.int .i64 a0, .int .i64 a1, .int .i64 a2] rfl rfl ?h1 hcap0 ?h2 ?h3 ?h4)
        case h1 => have := HO.out.1; have := HN.out; show j * 3 + 3 ≤ n * 3; omega
        case h2 => kernel_rfl
        case h3 => exact ints3 _ _ _
        case h4 =>
          intro w3 own3 fr3
          have O3 := Lib.hid own3
          have FR3 := Lib.hid fr3
          clear own3 fr3
          go_wp2_with fail
          refine noPanic_normal ?_
          go_wp2_with fail
          go_step3
          obtain ⟨x0, x1, x2, y0, y1, y2⟩ := HY.out
          have hlt : nlt (gt d' i) (gt d' j) := HUD.out.1 (by rw [HU.out]; exact hu)
          have R := up_swap (i := i) (j := j) HN.out HP.out (by have := HH1.out; rw [HN.out] at this; exact this) (by have := HF1.out; rw [HN.out] at this; exact this) (by have := HO.out.1; omega) (by have := HO.out.1; omega) hcap0 ((Fr.drewN w1 nq _).trans FR2.out (fun _ h => .inl h)) FR3.out (by
            have := O3.out
            simp only [ndC, x0, x1, x2, y0, y1, y2]
            exact this)
          exact HG.out _ _ ⟨⟨j, sw d' i j, ⟨rfl, rfl, rfl, rfl⟩, HUS.out hlt, R.1, R.2.1, R.2.2⟩, by simp [intOf]; omega⟩
    · have hu : urg a0 a1 a2 b0 b1 b2 = false := by assumption
      have hlt : ¬ nlt (gt d' i) (gt d' j) := fun h => by
        have := HUD.out.2 h
        rw [HU.out, hu] at this
        cases this
      exact HQ.out _ _ rfl ⟨d', HP.out, HST.out hlt, by have := HH1.out; rw [HN.out] at this; exact this, by have := HF1.out; rw [HN.out] at this; exact this⟩

end Go.Proofs.Ytflndnbjdhbppaa

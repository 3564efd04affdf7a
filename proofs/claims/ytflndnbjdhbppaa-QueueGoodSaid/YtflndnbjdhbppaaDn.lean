/- (*heap).down moves the first one down to its place: one pass from the label. -/
import Derived.Test.YtflndnbjdhbppaaUp
namespace Go.Proofs.Ytflndnbjdhbppaa
open Go Go.RowKit

def frDn (s0 s2 : Value) (u : Nat → Value) : Act := ⟨#[s0, u 1, s2, u 3, u 4, u 5, u 6, u 7, u 8, u 9, u 10, u 11, u 12, u 13, u 14, u 15, u 16, u 17, u 18, u 19, u 20, u 21, u 22, u 23, u 24, u 25, u 26, u 27, u 28, u 29, u 30, u 31, u 32, u 33, u 34, u 35, u 36, u 37, u 38, u 39, u 40, u 41, u 42, u 43, u 44, u 45, u 46, u 47, u 48, u 49, u 50, u 51, u 52, u 53, u 54, u 55, u 56, u 57, u 58, u 59, u 60, u 61, u 62, u 63, u 64, u 65, u 66, u 67, u 68, u 69, u 70, u 71, u 72, u 73, u 74, u 75, u 76], []⟩

def DnJ (w : World) (base q : Nat) (v : Value) (d : List Nd) (a : Act) (w' : World) : Prop :=
  ∃ (i : Nat) (d' : List Nd), (a.tmps.size = 77 ∧ a.defers = [] ∧ a.tmps.getD 0 undef = .pointer (some ⟨q, 0, none⟩) ∧ a.tmps.getD 2 undef = .int .i64 i) ∧ i < d'.length ∧ DnI d' i ∧ d'.Perm d ∧ HpAt w' base q v d' ∧ Fr (fun k => blk v = some k) w w'

noncomputable def dnRest : Code := match (findLabel (match (Try.f37).body with | some (.scope c) => c | _ => .skip) 0).getD .skip with
  | .seq _ c => c
  | c => c

def DnK (w : World) (base q : Nat) (v : Value) (d : List Nd) (m : Nat) (a : Act) (w' : World) : Prop := DnJ w base q v d a w' ∧ 2000 - (intOf (a.tmps.getD 2 undef)).toNat < m

/-- What is known of the least one so far, behind k of the two. -/
def LRel (d : List Nd) (i k m : Nat) : Prop :=
  (k = 0 ∧ m = i) ∨ (k = 1 ∧ ((2 * i + 1 < d.length ∧ nlt (gt d (2 * i + 1)) (gt d i)) ∧ m = 2 * i + 1 ∨ ¬ (2 * i + 1 < d.length ∧ nlt (gt d (2 * i + 1)) (gt d i)) ∧ m = i)) ∨ (k = 2 ∧ LeastOf d i m)
theorem LRel.lt {d : List Nd} {i k m : Nat} (hi : i < d.length) (h : LRel d i k m) : m < d.length := by
  rcases h with ⟨_, rfl⟩ | ⟨_, ⟨h, rfl⟩ | ⟨_, rfl⟩⟩ | ⟨_, h⟩
  · exact hi
  · exact h.1
  · exact hi
  · exact h.lt
theorem LRel.yes {d : List Nd} {i k m : Nat} (hi : i < d.length) (h : LRel d i k m) (hk : k < 2) (hl : 2 * i + 1 + k < d.length) (hlt : nlt (gt d (2 * i + 1 + k)) (gt d m)) : LRel d i (k + 1) (2 * i + 1 + k) := by
  rcases h with ⟨rfl, rfl⟩ | ⟨rfl, h⟩ | ⟨rfl, _⟩
  · exact .inr (.inl ⟨rfl, .inl ⟨⟨hl, hlt⟩, rfl⟩⟩)
  · exact .inr (.inr ⟨rfl, least_of hi h (.inl ⟨⟨hl, hlt⟩, rfl⟩)⟩)
  · omega
theorem LRel.no {d : List Nd} {i k m : Nat} (hi : i < d.length) (h : LRel d i k m) (hk : k < 2) (hn : ¬ (2 * i + 1 + k < d.length ∧ nlt (gt d (2 * i + 1 + k)) (gt d m))) : LRel d i (k + 1) m := by
  rcases h with ⟨rfl, rfl⟩ | ⟨rfl, h⟩ | ⟨rfl, _⟩
  · exact .inr (.inl ⟨rfl, .inr ⟨hn, rfl⟩⟩)
  · exact .inr (.inr ⟨rfl, least_of hi h (.inr ⟨hn, rfl⟩)⟩)
  · omega

set_option maxHeartbeats 4000000 in
set_option maxRecDepth 100000 in
theorem dn_pass (w : World) (base q : Nat) (v : Value) (d : List Nd) (hd : d.length ≤ 1000) (Q : Exit → Act → World → Prop) (hQ : ∀ a' w', a'.defers = [] → UpE w base q v d w' → Q .normal a' w') (a : Act) (w' : World) (hJ : DnJ w base q v d a w')
    (hG : ∀ a' w', DnK w base q v d (2000 - (intOf (a.tmps.getD 2 undef)).toNat) a' w' → Q (.goto 0) a' w') :
    dnRest.wp Try.prog Q a w' := by
  obtain ⟨i, d', ⟨hsz, hdf, hs0, hs2⟩, hil, hI, hp, hH, hF⟩ := hJ
  have hm : (intOf (a.tmps.getD 2 undef)).toNat = i := by rw [hs2]; simp [intOf]
  rw [hm] at hG
  clear hm
  have hfr : a = frDn (a.tmps.getD 0 undef) (a.tmps.getD 2 undef) (fun k => a.tmps.getD k undef) := (act_of_size hsz hdf).trans rfl
  rw [hs0, hs2] at hfr
  generalize (fun k => a.tmps.getD k undef) = u at hfr
  clear hsz hdf hs0 hs2
  subst hfr
  have hn : d'.length = d.length := hp.length_eq
  obtain ⟨g, off, cap, hv, hnc, hcm, hbg, hgl, hbk⟩ := hH.own.form (by omega)
  subst hv
  unfold frDn dnRest
  have hcap0 : 0 < cap := by omega
  obtain ⟨n, hnn⟩ : ∃ n, d'.length = n := ⟨_, rfl⟩
  have hin : (i : Int) < (n : Int) := by omega
  have hnb : n ≤ 1000 := by omega
  have HL := Lib.hid hil
  have HH := Lib.hid hH
  have HF := Lib.hid hF
  have HI := Lib.hid hI
  have HQ := Lib.hid hQ
  have HG := Lib.hid hG
  have HP := Lib.hid hp
  have HN := Lib.hid hnn
  have HN2 := Lib.hid hn
  have HC := Lib.hid hnc
  clear hH hF hI hQ hp hnn hn hbk hG hil hcm hbg hgl hd hnc
  have i0 : ∀ (x y : Value) (w : World), (Instr.index 83 (.agg #[x, y]) (.int .i64 0)).run Try.prog w = .ok x w := fun _ _ _ => by kernel_rfl
  have i1 : ∀ (x y : Value) (w : World), (Instr.index 83 (.agg #[x, y]) (.int .i64 1)).run Try.prog w = .ok y w := fun _ _ _ => by kernel_rfl
  obtain ⟨c1, hc1⟩ : ∃ c1 : Nat, 2 * i + 1 = c1 := ⟨_, rfl⟩
  obtain ⟨c2, hc2⟩ : ∃ c2 : Nat, 2 * i + 2 = c2 := ⟨_, rfl⟩
  have e1 : 2 * (i : Int) + 1 = (c1 : Int) := by omega
  have e2 : 2 * (i : Int) + 2 = (c2 : Int) := by omega
  have HC1 := Lib.hid hc1
  have HC2 := Lib.hid hc2
  clear hc1 hc2
  conv => arg 2; whnf
  go_wp2_with fail
  clear e1 e2
  go_loopw [3, 14] (fun s3 s14 wr => ∃ k m : Nat, s14 = .int .i64 k ∧ s3 = .int .i64 m ∧ k ≤ 2 ∧ LRel d' i k m ∧ Below w'.heap.size w' wr) (fun _ s14 _ => 2 - (intOf s14).toNat)
  case atStart => exact ⟨0, i, rfl, rfl, by omega, .inl ⟨rfl, rfl⟩, Below.refl _ _⟩
  case round =>
    obtain ⟨k, m, rfl, rfl, hk2, hL, hbw⟩ := hrel
    have hmn := hL.lt HL.out
    rw [HN.out] at hmn
    have hH1 := HH.out.below hbw
    have hq := hH1.c0
    have hq1 := hH1.c1
    rw [HN.out] at hq
    have HL1 := Lib.hid hL
    have HB := Lib.hid hbw
    clear hL hbw
    by_cases hk : k < 2
    · obtain ⟨c, hck, hix⟩ : ∃ c : Nat, 2 * i + 1 + k = c ∧ ∀ w, (Instr.index 83 (.agg #[.int .i64 c1, .int .i64 c2]) (.int .i64 k)).run Try.prog w = .ok (.int .i64 c) w := by
        rcases (show k = 0 ∨ k = 1 by omega) with rfl | rfl
        · exact ⟨c1, HC1.out, fun w => i0 _ _ w⟩
        · exact ⟨c2, HC2.out, fun w => i1 _ _ w⟩
      have HCK := Lib.hid hck
      clear hck
      have hk' : (k : Int) < 2 := by omega
      by_cases hcn : c < n
      · have hcn' : (c : Int) < (n : Int) := by omega
        have hmn' : (m : Int) < (n : Int) := by omega
        obtain ⟨ha0, ha1, ha2⟩ := own_el hH1.own c (by rw [HN.out]; exact hcn)
        obtain ⟨hb0, hb1, hb2⟩ := own_el hH1.own m (by rw [HN.out]; exact hmn)
        have hud : urgN (gt d' c) (gt d' m) = true ↔ nlt (gt d' c) (gt d' m) := urgN_iff _ _
        have hun : urgN (gt d' c) (gt d' m) = urg (gt d' c).1 (gt d' c).2.1 (gt d' c).2.2 (gt d' m).1 (gt d' m).2.1 (gt d' m).2.2 := rfl
        generalize (gt d' c).1 = a0 at ha0 hun
        generalize (gt d' c).2.1 = a1 at ha1 hun
        generalize (gt d' c).2.2 = a2 at ha2 hun
        generalize (gt d' m).1 = b0 at hb0 hun
        generalize (gt d' m).2.1 = b1 at hb1 hun
        generalize (gt d' m).2.2 = b2 at hb2 hun
        have HU := Lib.hid hun
        have HUD := Lib.hid hud
        clear hun hud hH1
        have F1 := fun d os => cell_regrown hq d os
        have F2 := fun d os => cell_regrown hq1 d os
        have F3 := fun d os => cell_regrown ha0 d os
        have F4 := fun d os => cell_regrown ha1 d os
        have F5 := fun d os => cell_regrown ha2 d os
        have F6 := fun d os => cell_regrown hb0 d os
        have F7 := fun d os => cell_regrown hb1 d os
        have F8 := fun d os => cell_regrown hb2 d os
        clear hq hq1 ha0 ha1 ha2 hb0 hb1 hb2 i0 i1
        go_wp2_with fail
        refine wp_region_quiet_below (by kernel_rfl) (by kernel_rfl) ?_
        repeat (go_big_quiet_step ((go_at_call 19; exact Calls.regrown_of (urgent_any _ _ _ _ _ _ _))))
        refine wpQuiet_nil ?_
        intro _ hw'
        obtain ⟨⟨dd, os⟩, hw''⟩ := hw'
        subst hw''
        have hbw1 := below_regrown wr dd os
        clear F1 F2 F3 F4 F5 F6 F7 F8
        generalize Go.Sort.grow (redrawn wr dd) os = w1 at *
        have HB1 := Lib.hid (below_then HB.out (hbw1))
        clear hbw1
        go_wp2_with fail
        · have hu : urg a0 a1 a2 b0 b1 b2 = true := by assumption
          go_roundw
          case rel => exact ⟨k + 1, c, by go_num, rfl, by omega, by rw [← HCK.out]; exact HL1.out.yes HL.out hk (by rw [HN.out, HCK.out]; exact hcn) (by rw [HCK.out]; exact HUD.out.1 (by rw [HU.out]; exact hu)), HB1.out⟩
          case measure => simp [intOf]; omega
        · have hu : urg a0 a1 a2 b0 b1 b2 = false := by assumption
          go_roundw
          case rel => exact ⟨k + 1, m, by go_num, rfl, by omega, HL1.out.no HL.out hk (fun h => by
            have h2 := HUD.out.2 (by have := h.2; rw [HCK.out] at this; exact this)
            rw [HU.out, hu] at h2
            cases h2), HB1.out⟩
          case measure => simp [intOf]; omega
      · have hcn' : decide ((c : Int) < (n : Int)) = false := by simp; omega
        have hcn2 : decide (c < n) = false := by simp; omega
        clear hq1 hH1 i0 i1
        go_wp2_with fail
        go_quiet (fail)
        go_wp2_with fail
        go_roundw
        case rel => exact ⟨k + 1, m, by go_num, rfl, by omega, HL1.out.no HL.out hk (fun h => by have := h.1; rw [HN.out, HCK.out] at this; omega), below_drewN HB.out _⟩
        case measure => simp [intOf]; omega
    · obtain rfl : k = 2 := by omega
      have hl := HL1.out
      have hlo : LeastOf d' i m := by
        rcases hl with ⟨h, _⟩ | ⟨h, _⟩ | ⟨_, h⟩
        · omega
        · omega
        · exact h
      have HLO := Lib.hid hlo
      clear hl hlo hq1 i0 i1
      have HF1 := Lib.hid (HF.out.thenBelow HB.out)
      have HH1 := Lib.hid hH1
      by_cases hmi : m = i
      · subst hmi
        clear hH1
        go_wp2_with fail
        exact HQ.out _ _ rfl ⟨d', HP.out, dn_stop HI.out HLO.out, HH1.out, HF1.out⟩
      · have hmi' : ((m : Int) != (i : Int)) = true := by simp; omega
        have hmn' : (m : Int) < (n : Int) := by omega
        obtain ⟨G3, G4, G5⟩ := own_el hH1.own i HL.out
        obtain ⟨G6, G7, G8⟩ := own_el hH1.own m (by rw [HN.out]; exact hmn)
        obtain ⟨a0, x0⟩ : ∃ x, (gt d' i).1 = x := ⟨_, rfl⟩
        obtain ⟨a1, x1⟩ : ∃ x, (gt d' i).2.1 = x := ⟨_, rfl⟩
        obtain ⟨a2, x2⟩ : ∃ x, (gt d' i).2.2 = x := ⟨_, rfl⟩
        obtain ⟨b0, y0⟩ : ∃ x, (gt d' m).1 = x := ⟨_, rfl⟩
        obtain ⟨b1, y1⟩ : ∃ x, (gt d' m).2.1 = x := ⟨_, rfl⟩
        obtain ⟨b2, y2⟩ : ∃ x, (gt d' m).2.2 = x := ⟨_, rfl⟩
        rw [x0] at G3
        rw [x1] at G4
        rw [x2] at G5
        rw [y0] at G6
        rw [y1] at G7
        rw [y2] at G8
        have HY := Lib.hid (And.intro x0 (And.intro x1 (And.intro x2 (And.intro y0 (And.intro y1 y2)))))
        clear x0 x1 x2 y0 y1 y2 hH1
        go_wp2_with fail
        refine wp_region_plan (C := fun w' => ∃ n, w' = World.drewN _ n) [9] 24 (by kernel_rfl) (by kernel_rfl) ⟨1, rfl⟩ ?_
        simp only [List.foldl_cons, List.foldl_nil, List.take_succ_cons, List.take_zero, List.drop_succ_cons, List.drop_zero, List.eraseIdx_cons_succ, List.eraseIdx_cons_zero]
        conv => arg 6; simp [takeMoves, moveOf, Act.put, Act.eval]
        repeat (go_big_quiet_step (fail))
        refine wpQuiet_nil ?_
        intro _ hw'
        obtain ⟨nq, hw''⟩ := hw'
        subst hw''
        have hH2 := HH1.out.own.drewN nq
        rw [HN.out] at hH2
        have HH2 := Lib.hid hH2
        clear hH2
        go_wp2_with (with_reducible refine wpList_store_own rfl 27 (.tmp 74) (.tmp 66) rfl HH2.out (i * 3) #[.int .i64 b0, .int .i64 b1, .int .i64 b2] rfl rfl ?h1 hcap0 ?h2 ?h3 ?h4)
        case h1 => have := HL.out; have := HN.out; show i * 3 + 3 ≤ n * 3; omega
        case h2 => kernel_rfl
        case h3 => exact ints3 _ _ _
        case h4 =>
          intro w2 own2 fr2
          have O2 := Lib.hid own2
          have FR2 := Lib.hid fr2
          clear own2 fr2
          go_wp2_with (with_reducible refine wpList_store_own rfl 27 (.tmp 75) (.tmp 73) rfl O2.out (m * 3) #[.int .i64 a0, .int .i64 a1, .int .i64 a2] rfl rfl ?h1 hcap0 ?h2 ?h3 ?h4)
          case h1 => show m * 3 + 3 ≤ n * 3; omega
          case h2 => kernel_rfl
          case h3 => exact ints3 _ _ _
          case h4 =>
            intro w3 own3 fr3
            have O3 := Lib.hid own3
            have FR3 := Lib.hid fr3
            clear own3 fr3
            go_wp2_with fail
            refine noPanic_normal ?_
            go_wp2_with fail
            go_step3
            obtain ⟨x0, x1, x2, y0, y1, y2⟩ := HY.out
            have R := up_swap (i := i) (j := m) HN.out HP.out (by have := HH1.out; rw [HN.out] at this; exact this) (by have := HF1.out; rw [HN.out] at this; exact this) HL.out HLO.out.lt hcap0 ((Fr.drewN wr nq _).trans FR2.out (fun _ h => .inl h)) FR3.out (by
              have := O3.out
              simp only [ndC, x0, x1, x2, y0, y1, y2]
              exact this)
            have his := HLO.out.is
            have hHG := HG.out
            rw [HN.out] at hHG
            exact hHG _ _ ⟨⟨m, sw d' i m, ⟨rfl, rfl, rfl, rfl⟩, by rw [sw_len]; exact HLO.out.lt, dn_step HI.out HL.out HLO.out hmi, R.1, R.2.1, R.2.2⟩, by simp [intOf]; omega⟩

end Go.Proofs.Ytflndnbjdhbppaa

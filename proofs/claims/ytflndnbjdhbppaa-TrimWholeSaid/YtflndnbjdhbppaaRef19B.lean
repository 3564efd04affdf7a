/- sutureref19.Without, All, Whole: their contracts. -/
import Derived.Test.YtflndnbjdhbppaaRef19
import Derived.Test.YtflndnbjdhbppaaRef12R
import Derived.Test.YtflndnbjdhbppaaTrimA
namespace Go.Proofs.Ytflndnbjdhbppaa
open Go Go.RowKit

def WoE (c0 c1 c2 : Int) (hs : List Int) (w : World) (e : Ending) (w' : World) : Prop := ∃ v', e = .returned (.agg #[.int .i64 c0, .int .i64 c1, .int .u32 c2, v']) ∧ Own w' w.heap.size 3 1 v' hs.length (hs.flatMap inC) ∧ Below w.heap.size w w'

set_option maxHeartbeats 1000000 in
theorem rwo_any (c0 c1 c2 : Int) (vh : Value) (h : List Int) (z : Int) (w : World) (hl : h.length ≤ 1000) (hH : Rd w 1 vh h.length (h.flatMap inC)) :
    Calls Try.prog 33 #[.agg #[.int .i64 c0, .int .i64 c1, .int .u32 c2, vh], .int .i64 z] w (WoE c0 c1 c2 (woL h z) w) := by
  obtain ⟨A, cap, hv, hcap, hnc⟩ := hH.shape
  subst hv
  obtain ⟨n, hn⟩ : ∃ n, h.length = n := ⟨_, rfl⟩
  have HH := Lib.hid hH
  have HN := Lib.hid hn
  rw [hn] at hl hnc ⊢
  have HLV : Hid (h.filter (fun y => y != z) = woL h z) := Lib.hid rfl
  clear hH hn
  go_enter Try.func33, Try.ntmps33
  go_wp2_with fail
  have hal := below2 w (.cells #[.int .i64 c0, .int .i64 c1, .int .u32 c2, .slice A n cap] 39) (.cells #[.int .i64 0, .int .i64 0, .int .u32 0, .slice none 0 0] 39)
  have hbc := (Bx.new w 39 [.int .i64 c0, .int .i64 c1, .int .u32 c2, .slice A n cap]).alloc (.cells #[.int .i64 0, .int .i64 0, .int .u32 0, .slice none 0 0] 39)
  have hbr := Bx.new (w.alloc (.cells #[.int .i64 c0, .int .i64 c1, .int .u32 c2, .slice A n cap] 39)) 39 [.int .i64 0, .int .i64 0, .int .u32 0, .slice none 0 0]
  rw [World.size_alloc] at hbr
  change Bx ((w.alloc (.cells #[.int .i64 c0, .int .i64 c1, .int .u32 c2, .slice A n cap] 39)).alloc (.cells #[.int .i64 0, .int .i64 0, .int .u32 0, .slice none 0 0] 39)) _ _ _ at hbc
  change Bx ((w.alloc (.cells #[.int .i64 c0, .int .i64 c1, .int .u32 c2, .slice A n cap] 39)).alloc (.cells #[.int .i64 0, .int .i64 0, .int .u32 0, .slice none 0 0] 39)) _ _ _ at hbr
  have hsz : ((w.alloc (.cells #[.int .i64 c0, .int .i64 c1, .int .u32 c2, .slice A n cap] 39)).alloc (.cells #[.int .i64 0, .int .i64 0, .int .u32 0, .slice none 0 0] 39)).heap.size = w.heap.size + 2 := by simp
  generalize ((w.alloc (.cells #[.int .i64 c0, .int .i64 c1, .int .u32 c2, .slice A n cap] 39)).alloc (.cells #[.int .i64 0, .int .i64 0, .int .u32 0, .slice none 0 0] 39)) = w0 at *
  have HAL := Lib.hid hal
  have HBC := Lib.hid hbc
  have HBR := Lib.hid hbr
  clear hal hbc hbr
  go_loopw [5, 6] (fun s5 s6 wr => ∃ k : Nat, k ≤ n ∧ s6 = .int .i64 k ∧ Own wr w0.heap.size 3 1 s5 ((h.take k).filter (fun y => y != z)).length (((h.take k).filter (fun y => y != z)).flatMap inC) ∧ Below w0.heap.size w0 wr) (fun _ s6 _ => n - (intOf s6).toNat)
  case atStart => exact ⟨0, Nat.zero_le _, rfl, by simpa using Own.nil_ _ _ _ _, Below.refl _ _⟩
  case round =>
    obtain ⟨k, hk, rfl, hot, hbel⟩ := hrel
    obtain ⟨At, capt, et⟩ := hot.slice_
    subst et
    have hll := filt_len (p := fun y => y != z) (h := h) k
    have HOT := Lib.hid hot
    have HB := Lib.hid hbel
    have hsr := hbel.size
    obtain ⟨q0, q1, q2, q3⟩ := (HBC.out.below' hbel).four
    have z3 := (HBC.out.below' hbel).frozen 3
    clear hot hbel
    by_cases hlt : k < n
    · have hltI : (k : Int) < (n : Int) := by omega
      have hH1 := (HH.out.below HAL.out (Nat.le_refl _)).below HB.out (Nat.le_refl _)
      rw [HN.out] at hH1
      obtain ⟨b, off, hA', hbl⟩ := hH1.addr (by omega)
      subst hA'
      have c0' := rd_int hH1 k (by rw [HN.out]; exact hlt)
      have hft := filt_take (p := fun y => y != z) (h := h) (k := k) (by rw [HN.out]; exact hlt)
      obtain ⟨x, hx⟩ : ∃ x, at_ h k = x := ⟨_, rfl⟩
      rw [hx] at c0' hft
      have HFT := Lib.hid hft
      clear hx hft hH1
      by_cases he : x = z
      · have he' : (x != z) = false := by simpa using he
        have HFS : Hid ((h.take (k + 1)).filter (fun y => y != z) = (h.take k).filter (fun y => y != z)) := by have e1 := HFT.out; simp only [he', Bool.false_eq_true, if_false, List.append_nil] at e1; exact e1
        clear he HFT
        go_wp2_with fail
        go_roundw
        case rel => exact ⟨k + 1, by omega, by go_num, by rw [HFS.out]; exact HOT.out, HB.out⟩
        case measure => simp [intOf]; omega
      · have he' : (x != z) = true := by simpa using he
        have HFS : Hid ((h.take (k + 1)).filter (fun y => y != z) = (h.take k).filter (fun y => y != z) ++ [x]) := by have e1 := HFT.out; simp only [he', if_true] at e1; exact e1
        clear he HFT
        go_wp2_with (at_builtin; refine wpList_app_in2 rfl (.tmp 21) (.tmp 27) rfl w0.heap.size _ _ rfl (HOT.out.alloc _) (.slice (some ⟨wr.heap.size, 0, none⟩) 1 1) [x] rfl (rd_one (t := 3) (heap_alloc_new _ _) rfl) (by rw [HN.out] at hll; simp; omega) (by simp; omega) ?_; intro vt4 w4 hown4 hfr4 _ hb4; have HO4 := Lib.hid hown4; have HB4 := Lib.hid hb4; clear hown4 hfr4 hb4)
        go_roundw
        case rel => exact ⟨k + 1, by omega, by go_num, by rw [HFS.out]; exact HO4.out, HB.out.trans (((below_one wr _).mono hsr).trans HB4.out)⟩
        case measure => simp [intOf]; omega
    · obtain rfl : k = n := by omega
      have e1 : (h.take k).filter (fun y => y != z) = woL h z := by rw [← HN.out, List.take_length]; exact HLV.out
      rw [e1] at HOT ⊢
      obtain ⟨hs, hhs⟩ : ∃ hs, woL h z = hs := ⟨_, rfl⟩
      rw [hhs] at HOT ⊢
      have bc1 := (HBC.out.below' HB.out).set_ 3 (.slice At hs.length capt)
      simp only [List.set_cons_succ, List.set_cons_zero] at bc1
      obtain ⟨r0, r1, r2, r3⟩ := bc1.four
      have BR1 := Lib.hid ((HBR.out.below' HB.out).setOther ⟨w.heap.size, 3, none⟩ (.slice At hs.length capt) (by simp))
      have HO1 := Lib.hid (HOT.out.fr (Fr.setCell wr ⟨w.heap.size, 3, none⟩ (.slice At hs.length capt) (fun k => k = w.heap.size) rfl) (fun g hg e => by have := (HOT.out.blk_lt hg).1; omega))
      have HB1 : Hid (Below w.heap.size w (wr.setCell ⟨w.heap.size, 3, none⟩ (.slice At hs.length capt))) := (HAL.out.trans (HB.out.mono (by omega))).setCell (p := ⟨w.heap.size, 3, none⟩) (Nat.le_refl _) _
      have HHS := Lib.hid hhs
      clear bc1 hll e1 hhs HLV
      go_wp2_with (with_reducible refine wpList_store_box rfl 39 _ _ rfl (w.heap.size + 1) 39 _ [.int .i64 c0, .int .i64 c1, .int .u32 c2, .slice At hs.length capt] rfl BR1.out rfl rfl ?hk ?hl ?hm)
      case hk => kernel_rfl
      case hl => simp [Value.oneCell']
      case hm =>
        intro w3 hbx3 hfr3
        obtain ⟨s0, s1, s2, s3⟩ := hbx3.four
        go_wp2_with fail
        refine bodyPost_ret (v := .agg #[.int .i64 c0, .int .i64 c1, .int .u32 c2, .slice At hs.length capt]) ?_ rfl ⟨_, rfl, ?_, ?_⟩
        · simp [results, Try.results33, go_sem, s0, s1, s2, s3]
        · have ho3 := HO1.out.fr hfr3 (fun g hg e => by have := (HO1.out.blk_lt hg).1; have e2 : g = w.heap.size + 1 := e; omega)
          rw [HHS.out]
          exact ho3.mono (by omega)
        · exact HB1.out.trans (hfr3.below (B := w.heap.size) (by simp [World.setCell]; have := HB.out.size; omega) (fun k hk => by have : k = w.heap.size + 1 := hk; omega))

def RAllR (l : List Nq) (al : List Int) (ld : List Ld) (want : Int) (h0 : List Int) (c0 c1 c2 : Int) (w : World) (B : Nat) (s11 : Value) (wr : World) : Prop :=
  ∃ (td hs : List Int) (vh : Value), Bx wr B 39 [.int .i64 c0, .int .i64 c1, .int .u32 c2, vh] ∧ Own wr (B + 1) 3 1 s11 td.length (td.flatMap inC) ∧ Rd wr 1 vh hs.length (hs.flatMap inC) ∧
    (∀ g off c, vh = .slice (some ⟨g, off, none⟩) hs.length c → 0 < hs.length → g < B ∨ (B < g ∧ blk s11 ≠ some g)) ∧ Below B w wr ∧ td ++ goneT hs l al ld want = goneT h0 l al ld want ∧ td.length + hs.length ≤ 1000

set_option maxHeartbeats 4000000 in
set_option maxRecDepth 100000 in
theorem rall_any (c0 c1 c2 : Int) (vh : Value) (h : List Int) (vn : Value) (l : List Nq) (va : Value) (al : List Int) (vd : Value) (ld : List Ld) (want : Int) (w : World) (hl : h.length ≤ 1000) (hH : Rd w 1 vh h.length (h.flatMap inC)) (hN : Rd w 4 vn l.length (l.flatMap noC)) (hA : Rd w 1 va al.length (al.flatMap inC)) (hD : Rd w 2 vd ld.length (ld.flatMap ldC)) :
    Calls Try.prog 30 #[.agg #[.int .i64 c0, .int .i64 c1, .int .u32 c2, vh], vn, va, vd, .int .i64 want] w (FreshI (goneT h l al ld want) w) := by
  obtain ⟨A, cap, hv, _, _⟩ := hH.shape
  subst hv
  have HH := Lib.hid hH
  have HN := Lib.hid hN
  have HA := Lib.hid hA
  have HD := Lib.hid hD
  clear hH hA hN hD
  go_enter Try.func30, Try.ntmps30
  go_wp2_with fail
  have hal := below_one w (.cells #[.int .i64 c0, .int .i64 c1, .int .u32 c2, .slice A h.length cap] 39)
  have hbc := Bx.new w 39 [.int .i64 c0, .int .i64 c1, .int .u32 c2, .slice A h.length cap]
  change Bx (w.alloc (.cells #[.int .i64 c0, .int .i64 c1, .int .u32 c2, .slice A h.length cap] 39)) _ _ _ at hbc
  generalize (w.alloc (.cells #[.int .i64 c0, .int .i64 c1, .int .u32 c2, .slice A h.length cap] 39)) = w0 at *
  obtain ⟨B, hB⟩ : ∃ B, w.heap.size = B := ⟨_, rfl⟩
  rw [hB] at hal hbc ⊢
  have HAL := Lib.hid hal
  have HBC0 := Lib.hid hbc
  have HBZ := Lib.hid hB
  have HSP0 : Hid (∀ g off c, Value.slice A h.length cap = .slice (some ⟨g, off, none⟩) h.length c → 0 < h.length → g < B ∨ (B < g ∧ blk (.slice none 0 0) ≠ some g)) := fun g off c e h0 => by
    obtain ⟨b, off', cap', hv, _, _, hlt, _⟩ := HH.out.form h0
    rw [e] at hv
    injection hv with h1 h2 h3
    injection h1 with h1
    injection h1 with h4 h5
    subst h4
    exact .inl (by omega)
  clear hal hbc hB
  go_loopw [11] (RAllR l al ld want h c0 c1 c2 w B) (fun s11 _ => 1000 - lenS s11)
  case atStart => exact ⟨[], h, .slice A h.length cap, HBC0.out, Own.nil_ _ _ _ _, HH.out.below HAL.out (Nat.le_of_eq HBZ.out), HSP0.out, HAL.out, rfl, by simpa using hl⟩
  case round =>
    obtain ⟨td, hs, vh4, hbc, hot, hoh, hsp, hbel, hgo, hlen⟩ := hrel
    obtain ⟨At, capt, et⟩ := hot.slice_
    obtain ⟨Ah, caph, eh, _, _⟩ := hoh.shape
    subst et eh
    have HBC := Lib.hid hbc
    have HOT := Lib.hid hot
    have HOH := Lib.hid hoh
    have HSP := Lib.hid hsp
    have HBL := Lib.hid hbel
    have HGO := Lib.hid hgo
    have hwr := hbc.lt
    clear hbc hot hoh hsp hbel hgo
    obtain ⟨q0, q1, q2, q3⟩ := HBC.out.four
    go_wp2_with fail
    refine (rexcess_any c0 c1 c2 _ hs vn l va al vd ld want wr (by omega) HOH.out (HN.out.below HBL.out (Nat.le_of_eq HBZ.out)) (HA.out.below HBL.out (Nat.le_of_eq HBZ.out)) (HD.out.below HBL.out (Nat.le_of_eq HBZ.out))).mono ?_
    rintro e w2 ⟨rfl, hb2⟩
    unfold optI
    obtain ⟨o, ho⟩ : ∃ o, excT hs l al ld want = o := ⟨_, rfl⟩
    rw [ho]
    have HE2 := Lib.hid ho
    have HB2 := Lib.hid hb2
    have HBL2 := Lib.hid (HBL.out.trans (hb2.mono (by omega)))
    have hs2 := hb2.size
    have HOT2 := Lib.hid (HOT.out.below hb2 (Nat.le_refl _))
    have HOH2 := Lib.hid (HOH.out.below hb2 (Nat.le_refl _))
    have HBC2 := Lib.hid (HBC.out.below' hb2)
    clear ho hb2 q0 q1 q2 q3
    cases o with
    | none =>
      simp only [Option.isSome_none]
      go_wp2_with fail
      go_ret
      refine ⟨_, rfl, ?_, by rw [HBZ.out]; exact HBL2.out⟩
      rw [← allR_stop HE2.out HGO.out, HBZ.out]
      exact HOT2.out.mono (by omega)
    | some id =>
      simp only [Option.isSome_some, Option.getD_some]
      have hmem := (excL_some HE2.out).2.2.1
      have hwl := woL_len_lt hmem
      have HST := Lib.hid (allR_step HE2.out HGO.out)
      clear HE2 HGO hmem HOT HOH HBC HB2
      go_wp2_with (at_builtin; refine wpList_app_in2 rfl (.tmp 26) (.tmp 28) rfl (B + 1) (.slice At td.length capt) td rfl (HOT2.out.alloc _) (.slice (some ⟨w2.heap.size, 0, none⟩) 1 1) [id] rfl (rd_one (t := 3) (heap_alloc_new _ _) rfl) (by simp; omega) (by simp; omega) ?_; intro vt4 w4 hown4 hfr4 hbk4 hb4; have HO4 := Lib.hid hown4; have HB4 := Lib.hid hb4; have hs4 := hb4.size; have bc4 := (HBC2.out.alloc (.cells #[.int .i64 id] 3)).fr hfr4 (fun e => by have := (HOT2.out.blk_lt e).1; omega); have oh4 : Rd w4 1 (.slice Ah hs.length caph) hs.length (hs.flatMap inC) := (HOH2.out.alloc (.cells #[.int .i64 id] 3)).keep hfr4.size (fun b off c e h0 => by (obtain ⟨b', off', cap', hv, _, _, hlt, _⟩ := HOH2.out.form h0; have e2 := e; rw [hv] at e2; injection e2 with e3; injection e3 with e3; injection e3 with e3; subst e3; refine hfr4.block _ (by simp; omega) (fun hq => ?_); have h1 := (HOT2.out.blk_lt hq).1; rcases HSP.out b' off c e h0 with h2 | h2; exact absurd h1 (by omega); exact h2.2 hq)); have BC4 := Lib.hid bc4; have OH4 := Lib.hid oh4; obtain ⟨q0, q1, q2, q3⟩ := bc4.four; clear hown4 hfr4 hbk4 hb4 bc4 oh4)
      refine (rwo_any c0 c1 c2 _ hs id w4 (by omega) OH4.out).mono ?_
      rintro e w5 ⟨v5, rfl, ho5, hb5⟩
      obtain ⟨A5, cap5, e5⟩ := ho5.slice_
      subst e5
      obtain ⟨hs2', hhs⟩ : ∃ x, woL hs id = x := ⟨_, rfl⟩
      rw [hhs] at ho5 hwl HST ⊢
      have HO5 := Lib.hid ho5
      have HB5 := Lib.hid hb5
      have hs5 := hb5.size
      have BC5 := Lib.hid (BC4.out.below' hb5)
      have OT5 := Lib.hid (HO4.out.below hb5 (Nat.le_refl _))
      have hb4 := BC4.out.lt
      have HBL5 : Hid (Below B w w5) := HBL2.out.trans (((below_one w2 (.cells #[.int .i64 id] 3)).mono (by omega)).trans ((HB4.out.mono (by omega)).trans (hb5.mono (by omega))))
      clear ho5 hb5 hhs q0 q1 q2 q3
      go_wp2_with (with_reducible refine wpList_store_box rfl 39 _ _ rfl B 39 _ [.int .i64 c0, .int .i64 c1, .int .u32 c2, .slice A5 hs2'.length cap5] rfl BC5.out rfl rfl ?hk ?hl ?hm)
      case hk => kernel_rfl
      case hl => simp [Value.oneCell']
      case hm =>
        intro w6 hbx6 hfr6
        have HX6 := Lib.hid hbx6
        have HF6 := Lib.hid hfr6
        clear hbx6 hfr6
        go_wp2_with fail
        go_roundw
        case rel =>
          refine ⟨td ++ [id], hs2', .slice A5 hs2'.length cap5, HX6.out, OT5.out.fr HF6.out (fun g hg e => by have := (OT5.out.blk_lt hg).1; have e' : g = B := e; omega), (HO5.out.fr HF6.out (fun g hg e => by have := (HO5.out.blk_lt hg).1; have e' : g = B := e; omega)).rd, fun g off c e h0 => ?_, HBL5.out.trans (HF6.out.below (B := B) (by omega) (fun k hk => by have e' : k = B := hk; omega)), HST.out, by simp; omega⟩
          obtain ⟨g', off', cap', hv, _, _, hb', _, hbk⟩ := HO5.out.form h0
          rw [e] at hv hbk
          injection hv with h1 h2 h3
          injection h1 with h1
          injection h1 with h4 h5
          subst h4
          exact .inr ⟨by omega, fun e2 => by have := (HO4.out.blk_lt e2).2; omega⟩
        case measure =>
          obtain ⟨A8, c8, e8⟩ := HO4.out.slice_
          rw [e8]
          simp [lenS]
          omega

set_option maxHeartbeats 2000000 in
theorem rwhole_any (c0 c1 c2 : Int) (vh : Value) (h : List Int) (vn : Value) (l : List Nq) (va : Value) (al : List Int) (want : Int) (w : World) (hl : h.length ≤ 1000) (hH : Rd w 1 vh h.length (h.flatMap inC)) (hN : Rd w 4 vn l.length (l.flatMap noC)) (hA : Rd w 1 va al.length (al.flatMap inC)) :
    Calls Try.prog 32 #[.agg #[.int .i64 c0, .int .i64 c1, .int .u32 c2, vh], vn, va, .int .i64 want] w fun e w' => e = .returned (.bool (wholeT h l al want)) ∧ Below w.heap.size w w' := by
  obtain ⟨A, cap, hv, _, _⟩ := hH.shape
  subst hv
  have HH := Lib.hid hH
  have HN := Lib.hid hN
  have HA := Lib.hid hA
  have hw : wholeT h l al want = (decide (((goodL h l al).length : Int) = want) && decide ((idlL h l al).length = 0) && decide (mn2 want ≤ (racksN l (goodL h l al) : Int))) := rfl
  obtain ⟨m, hm⟩ : ∃ m, mn2 want = m := ⟨_, rfl⟩
  have hgl := goodL_len h l al
  obtain ⟨g, hg⟩ : ∃ g, goodL h l al = g := ⟨_, rfl⟩
  rw [hm, hg] at hw
  rw [hg] at hgl
  have HW := Lib.hid hw
  have HG := Lib.hid hg
  have HM : Hid ((want > 2 → m = 2) ∧ (¬ want > 2 → m = want)) := by rw [← hm]; unfold mn2; exact ⟨fun h => by rw [if_neg (by omega)], fun h => by split <;> omega⟩
  clear hH hA hN hw hg hm
  go_enter Try.func32, Try.ntmps32
  go_wp2_with fail
  have hal := below_one w (.cells #[.int .i64 c0, .int .i64 c1, .int .u32 c2, .slice A h.length cap] 39)
  have hbc := Bx.new w 39 [.int .i64 c0, .int .i64 c1, .int .u32 c2, .slice A h.length cap]
  change Bx (w.alloc (.cells #[.int .i64 c0, .int .i64 c1, .int .u32 c2, .slice A h.length cap] 39)) _ _ _ at hbc
  generalize (w.alloc (.cells #[.int .i64 c0, .int .i64 c1, .int .u32 c2, .slice A h.length cap] 39)) = w1 at *
  refine (rgood_any c0 c1 c2 _ h _ l va al w1 hl (HH.out.below hal (Nat.le_refl _)) (HN.out.below hal (Nat.le_refl _)) (HA.out.below hal (Nat.le_refl _))).mono ?_
  rintro e w2 ⟨v2, rfl, ho2, hb2⟩
  rw [HG.out] at ho2
  obtain ⟨A2, cap2, hv2⟩ := ho2.slice_
  subst hv2
  obtain ⟨q0, q1, q2, q3⟩ := (hbc.below' hb2).four
  have HG2 := Lib.hid ho2.rd
  have HB2 := Lib.hid (below_then hal hb2)
  clear hal hbc ho2 hb2
  go_wp2_with fail
  refine (ridle_any c0 c1 c2 _ h _ l va al w2 hl (HH.out.below HB2.out (Nat.le_refl _)) (HN.out.below HB2.out (Nat.le_refl _)) (HA.out.below HB2.out (Nat.le_refl _))).mono ?_
  rintro e w3 ⟨v3, rfl, ho3, hb3⟩
  obtain ⟨A3, cap3, hv3⟩ := ho3.slice_
  subst hv3
  have HB3 := Lib.hid (below_then HB2.out hb3)
  have HG3 := Lib.hid (HG2.out.below hb3 (Nat.le_refl _))
  obtain ⟨ni, hni⟩ : ∃ n, (idlL h l al).length = n := ⟨_, rfl⟩
  rw [hni] at HW ⊢
  clear ho3 hb3 q0 q1 q2 q3 hni
  have hnn : g.length ≤ 9223372036854775807 := by omega
  by_cases h1 : (g.length : Int) = want
  · have h1' : ((g.length : Int) == want) = true := by simpa using h1
    have H1 := Lib.hid h1
    clear h1
    by_cases h2 : ni = 0
    · subst h2
      by_cases h4 : want > 2
      · have H4 := Lib.hid h4
        go_wp2_with fail
        refine (refRacks_any _ _ l g w3 (by omega) (HN.out.below HB3.out (Nat.le_refl _)) HG3.out).mono ?_
        rintro e w4 ⟨rfl, hb4⟩
        have HB4 := Lib.hid (below_then HB3.out hb4)
        clear hb4
        obtain ⟨r, hr⟩ : ∃ r, racksN l g = r := ⟨_, rfl⟩
        rw [hr] at HW ⊢
        clear hr
        go_wp2_with fail
        go_ret
        refine ⟨?_, HB4.out⟩
        rw [HW.out, decide_eq_true H1.out, HM.out.1 H4.out]
        simp
      · have H4 := Lib.hid h4
        go_wp2_with fail
        refine (refRacks_any _ _ l g w3 (by omega) (HN.out.below HB3.out (Nat.le_refl _)) HG3.out).mono ?_
        rintro e w4 ⟨rfl, hb4⟩
        have HB4 := Lib.hid (below_then HB3.out hb4)
        clear hb4
        obtain ⟨r, hr⟩ : ∃ r, racksN l g = r := ⟨_, rfl⟩
        rw [hr] at HW ⊢
        clear hr
        go_wp2_with fail
        go_ret
        refine ⟨?_, HB4.out⟩
        rw [HW.out, decide_eq_true H1.out, HM.out.2 H4.out]
        simp
    · have h2' : ((ni : Int) == 0) = false := by simpa using (by omega : ¬ (ni : Int) = 0)
      have H2 := Lib.hid h2
      clear h2
      by_cases h4 : want > 2
      · go_wp2_with fail
        go_ret
        refine ⟨?_, HB3.out⟩
        rw [HW.out, decide_eq_false H2.out]
        simp
      · go_wp2_with fail
        go_ret
        refine ⟨?_, HB3.out⟩
        rw [HW.out, decide_eq_false H2.out]
        simp
  · have h1' : ((g.length : Int) == want) = false := by simpa using h1
    have H1 := Lib.hid h1
    clear h1
    by_cases h4 : want > 2
    · go_wp2_with fail
      go_ret
      refine ⟨?_, HB3.out⟩
      rw [HW.out, decide_eq_false H1.out]
      simp
    · go_wp2_with fail
      go_ret
      refine ⟨?_, HB3.out⟩
      rw [HW.out, decide_eq_false H1.out]
      simp

end Go.Proofs.Ytflndnbjdhbppaa

/- trim.All: its contract. -/
import Derived.Test.YtflndnbjdhbppaaTrimY
import Derived.Test.YtflndnbjdhbppaaDelFTra
import Derived.Test.YtflndnbjdhbppaaAppI2
namespace Go.Proofs.Ytflndnbjdhbppaa
open Go Go.RowKit Go.Maps Go.WideMaps Go.Sort

theorem Bx.set_ {w : World} {B : Nat} {t : TypeId} {cs : List Value} (h : Bx w B t cs) (j : Nat) (u : Value) : Bx (w.setCell ⟨B, j, none⟩ u) B t (cs.set j u) := by
  have h' : w.heap[B]? = some (.cells cs.toArray t (0, 0)) := h
  show (w.setCell ⟨B, j, none⟩ u).heap[B]? = _
  simp [World.setCell, Array.getElem?_modify, h']
theorem Bx.setOther {w : World} {B : Nat} {t : TypeId} {cs : List Value} (h : Bx w B t cs) (a : Addr) (u : Value) (hn : a.block ≠ B) : Bx (w.setCell a u) B t cs :=
  (Below.heap_setCell _ _ _ _ (fun e => hn e.symm)).trans h

def AllR (l : List Nq) (al : List Int) (ld : List Ld) (want : Int) (h0 : List Int) (c0 c1 c2 : Int) (w : World) (B : Nat) (s11 s12 s13 : Value) (wr : World) : Prop :=
  ∃ (td hs : List Int) (ib : Nat) (vh : Value), s12 = .pointer (some ⟨ib, 0, none⟩) ∧ s13 = .bool (excT hs l al ld want).isSome ∧ Bx wr ib 3 [.int .i64 ((excT hs l al ld want).getD 0)] ∧ Bx wr B 39 [.int .i64 c0, .int .i64 c1, .int .u32 c2, vh] ∧
    Own wr (B + 1) 3 1 s11 td.length (td.flatMap inC) ∧ Own wr (B + 1) 3 1 vh hs.length (hs.flatMap inC) ∧ Sep s11 vh ∧ blk s11 ≠ some ib ∧ blk vh ≠ some ib ∧ B < ib ∧ Below B w wr ∧
    td ++ goneT hs l al ld want = goneT h0 l al ld want ∧ hs.Nodup ∧ td.length + hs.length ≤ 1000

theorem allR_step {l : List Nq} {al : List Int} {ld : List Ld} {want : Int} {hs td X : List Int} {n : Int} (he : excT hs l al ld want = some n) (h : td ++ goneT hs l al ld want = X) : (td ++ [n]) ++ goneT (woL hs n) l al ld want = X := by
  rw [← h]
  unfold goneT
  rw [goneL_some he, List.append_assoc]
  rfl
theorem allR_stop {l : List Nq} {al : List Int} {ld : List Ld} {want : Int} {hs td X : List Int} (he : excT hs l al ld want = none) (h : td ++ goneT hs l al ld want = X) : td = X := by
  rw [← h]
  unfold goneT
  rw [goneL_none he, List.append_nil]

theorem tra1_any (S : Nat → Prop) (w : World) (ib : Nat) (id : Int) (hb : Bx w ib 3 [.int .i64 id]) (hn : ¬ S ib) : Pred_tra S w (.pointer (some ⟨ib, 0, none⟩)) (fun z => z == id) := by
  intro z W hf
  have c0 := (hb.fr hf hn).cell 0
  simp only [List.getElem?_cons_zero] at c0
  clear hb hf
  go_enter Try.func57, Try.ntmps57
  go_wp2_with fail
  go_ret
  exact ⟨rfl, Below.refl _ _⟩

def lenS : Value → Nat
  | .slice _ n _ => n
  | _ => 0

set_option maxHeartbeats 4000000 in
set_option maxRecDepth 100000 in
theorem all_any (c0 c1 c2 : Int) (vh : Value) (h : List Int) (vn : Value) (l : List Nq) (va : Value) (al : List Int) (vd : Value) (ld : List Ld) (want : Int) (w : World) (hnd : h.Nodup) (hl : h.length ≤ 1000) (hll : l.length ≤ 1000) (hH : Rd w 1 vh h.length (h.flatMap inC)) (hN : Rd w 4 vn l.length (l.flatMap noC)) (hA : Rd w 1 va al.length (al.flatMap inC)) (hD : Rd w 2 vd ld.length (ld.flatMap ldC)) :
    Calls Try.prog 29 #[.agg #[.int .i64 c0, .int .i64 c1, .int .u32 c2, vh], vn, va, vd, .int .i64 want] w (FreshI (goneT h l al ld want) w) := by
  have hmf : ∀ (fn : Fn) (first cap : Array Value) (w : World), (Instr.makeFunc fn first cap).run Try.prog w = .ok (.func fn first cap) w := fun _ _ _ _ => rfl
  obtain ⟨A, cap, hv, _, _⟩ := hH.shape
  subst hv
  have HH := Lib.hid hH
  have HN := Lib.hid hN
  have HA := Lib.hid hA
  have HD := Lib.hid hD
  clear hH hA hN hD
  go_enter Try.func29, Try.ntmps29
  go_wp2_with fail
  have hal := below_one w (.cells #[.int .i64 c0, .int .i64 c1, .int .u32 c2, .slice A h.length cap] 39)
  have hbc := Bx.new w 39 [.int .i64 c0, .int .i64 c1, .int .u32 c2, .slice A h.length cap]
  change Bx (w.alloc (.cells #[.int .i64 c0, .int .i64 c1, .int .u32 c2, .slice A h.length cap] 39)) _ _ _ at hbc
  have hsz0 : (w.alloc (.cells #[.int .i64 c0, .int .i64 c1, .int .u32 c2, .slice A h.length cap] 39)).heap.size = w.heap.size + 1 := World.size_alloc _ _
  generalize (w.alloc (.cells #[.int .i64 c0, .int .i64 c1, .int .u32 c2, .slice A h.length cap] 39)) = w0 at *
  obtain ⟨B, hB⟩ : ∃ B, w.heap.size = B := ⟨_, rfl⟩
  rw [hB] at hal hbc hsz0 ⊢
  refine (clone_in _ h w0 hl (HH.out.below hal (by omega))).mono ?_
  rintro e w1 ⟨v1, rfl, ho1, hb1⟩
  obtain ⟨A1, cap1, e1⟩ := ho1.slice_
  subst e1
  rw [hsz0] at ho1
  have HO1 := Lib.hid ho1
  have HB1 := Lib.hid (hal.trans (hb1.mono (by omega)))
  have HC1 := Lib.hid (hbc.below' hb1)
  have HBZ := Lib.hid hB
  clear hal hbc ho1 hb1 hsz0 hB
  obtain ⟨q0, q1, q2, q3⟩ := HC1.out.four
  have z3 := HC1.out.frozen 3
  go_wp2_with fail
  have hc2 := HC1.out.set_ 3 (.slice A1 h.length cap1)
  simp only [List.set_cons_succ, List.set_cons_zero] at hc2
  have hf2 : Fr (fun k => k = B) w1 (w1.setCell ⟨B, 3, none⟩ (.slice A1 h.length cap1)) := Fr.setCell _ _ _ _ rfl
  have ho2 := HO1.out.fr hf2 (fun g hg e => by have := (HO1.out.blk_lt hg).1; omega)
  have hb2 : Below B w (w1.setCell ⟨B, 3, none⟩ (.slice A1 h.length cap1)) := HB1.out.setCell (p := ⟨B, 3, none⟩) (Nat.le_refl _) _
  clear q0 q1 q2 q3 z3 hf2
  generalize (w1.setCell ⟨B, 3, none⟩ (.slice A1 h.length cap1)) = w2 at *
  have HO2 := Lib.hid ho2
  have HC2 := Lib.hid hc2
  have HB2 := Lib.hid hb2
  clear ho2 hc2 hb2 HO1 HC1 HB1
  refine (excess_any c0 c1 c2 _ h vn l va al vd ld want w2 hnd hl hll HO2.out.rd (HN.out.below HB2.out (Nat.le_of_eq HBZ.out)) (HA.out.below HB2.out (Nat.le_of_eq HBZ.out)) (HD.out.below HB2.out (Nat.le_of_eq HBZ.out))).mono ?_
  rintro e w3 ⟨rfl, hb3⟩
  have HO3 := Lib.hid (HO2.out.below hb3 (Nat.le_refl _))
  have HC3 := Lib.hid (HC2.out.below' hb3)
  have hlt3 : B < w3.heap.size := HC3.out.lt
  have HB3 := Lib.hid (HB2.out.trans (hb3.mono (by have := HC2.out.lt; omega)))
  clear hb3 HO2 HC2 HB2
  unfold optI
  obtain ⟨o, ho⟩ : ∃ o, excT h l al ld want = o := ⟨_, rfl⟩
  rw [ho]
  have HEX := Lib.hid ho
  clear ho
  go_wp2_with fail
  go_loopw [11, 12, 13] (AllR l al ld want h c0 c1 c2 w B) (fun s11 _ _ _ => 1000 - lenS s11)
  case atStart =>
    refine ⟨[], h, w3.heap.size, .slice A1 h.length cap1, rfl, by rw [HEX.out], by rw [HEX.out]; exact Bx.new w3 3 [.int .i64 (o.getD 0)], HC3.out.alloc _, Own.nil_ _ _ _ _, HO3.out.alloc _, (fun g hg => by simp [blk] at hg), by simp [blk], fun e => by have := (HO3.out.blk_lt e).2; omega, hlt3, HB3.out.alloc (by omega) _, rfl, hnd, by simpa using hl⟩
  case round =>
    obtain ⟨td, hs, ib, vh4, rfl, rfl, hib, hbc, hot, hoh, hsp, hn1, hn2, hBi, hbel, hgo, hndh, hlen⟩ := hrel
    obtain ⟨At, capt, et⟩ := hot.slice_
    obtain ⟨Ah, caph, eh⟩ := hoh.slice_
    subst et eh
    have HIB := Lib.hid hib
    have HBC := Lib.hid hbc
    have HOT := Lib.hid hot
    have HOH := Lib.hid hoh
    have HSP := Lib.hid hsp
    have HN1 := Lib.hid hn1
    have HN2 := Lib.hid hn2
    have HBL := Lib.hid hbel
    have HGO := Lib.hid hgo
    have HND := Lib.hid hndh
    have hwr := hib.lt
    clear hib hbc hot hoh hsp hn1 hn2 hbel hgo hndh
    obtain ⟨o2, ho2⟩ : ∃ o, excT hs l al ld want = o := ⟨_, rfl⟩
    rw [ho2] at HIB ⊢
    have HE2 := Lib.hid ho2
    clear ho2 HEX
    cases o2 with
    | none =>
      simp only [Option.isSome_none]
      go_wp2_with fail
      go_ret
      refine ⟨_, rfl, ?_, by rw [HBZ.out]; exact HBL.out⟩
      rw [← allR_stop HE2.out HGO.out, HBZ.out]
      exact HOT.out.mono (by omega)
    | some id =>
      simp only [Option.isSome_some]
      have i0 := HIB.out.cell 0
      simp only [Option.getD_some, List.getElem?_cons_zero] at i0
      have hmem := (excL_some HE2.out).2.2.1
      have hwl := woL_len_lt hmem
      have HST := Lib.hid (allR_step HE2.out HGO.out)
      have HND2 := Lib.hid (woL_nodup HND.out id)
      clear HE2 HGO hmem
      go_wp2_with (at_builtin; refine wpList_app_in2 rfl (.tmp 37) (.tmp 39) rfl (B + 1) (.slice At td.length capt) td rfl (HOT.out.alloc _) (.slice (some ⟨wr.heap.size, 0, none⟩) 1 1) [id] rfl (rd_one (t := 3) (heap_alloc_new _ _) rfl) (by simp; omega) (by simp; omega) ?_; intro vt4 w4 hown4 hfr4 hbk4 hb4; have HO4 := Lib.hid hown4; have HF4 := Lib.hid hfr4; have HK4 := Lib.hid hbk4; have HB4 := Lib.hid hb4; have hs4 := hb4.size; have bc4 := (HBC.out.alloc (.cells #[.int .i64 id] 3)).fr hfr4 (fun e => by have := (HOT.out.blk_lt e).1; omega); have ib4 := (HIB.out.alloc (.cells #[.int .i64 id] 3)).fr hfr4 HN1.out; have oh4 := (HOH.out.alloc (.cells #[.int .i64 id] 3)).fr hfr4 (fun g hg hg2 => HSP.out g hg2 hg); have BC4 := Lib.hid bc4; have IB4 := Lib.hid ib4; have OH4 := Lib.hid oh4; obtain ⟨q0, q1, q2, q3⟩ := bc4.four; have z3 := bc4.frozen 3; clear hown4 hfr4 hbk4 hb4 bc4 ib4 oh4)
      have hsp4 : Sep vt4 (.slice Ah hs.length caph) := sep_two (w1 := wr.alloc (.cells #[.int .i64 id] 3)) (w3 := w4) HOT.out HOH.out HSP.out (by simp) HO4.out HK4.out (Nat.le_refl _) (.inl rfl)
      have hn4 : blk vt4 ≠ some ib := fun e => by
        rcases HK4.out with h1 | h1
        · exact HN1.out (h1 ▸ e)
        · rw [e] at h1
          simp at h1
          omega
      have HSP4 := Lib.hid hsp4
      have HN4 := Lib.hid hn4
      have hbel4 : Below B w w4 := HBL.out.trans (((below_one wr (.cells #[.int .i64 id] 3)).mono (by omega)).trans (HB4.out.mono (by omega)))
      have HBL4 := Lib.hid hbel4
      have hsw4 : wr.heap.size < w4.heap.size := by simp at hs4; omega
      clear hsp4 hn4 hbel4 q0 q1 q2 q3 z3 i0 HBC HIB HOT HSP HN1 HF4 HK4 HB4 hs4 HOH
      refine (deleteF_tra (B + 1) (.slice Ah hs.length caph) hs (.pointer (some ⟨ib, 0, none⟩)) (fun z => z == id) w4 (by omega) (by omega) OH4.out (tra1_any _ w4 ib id IB4.out HN2.out)).mono ?_
      rintro e w5 ⟨v5, rfl, ho5, hf5, hbk5⟩
      rw [show hs.filter (fun z => !(z == id)) = woL hs id from rfl] at ho5
      obtain ⟨hs2, hhs⟩ : ∃ x, woL hs id = x := ⟨_, rfl⟩
      rw [hhs] at ho5 hwl HST HND2
      obtain ⟨A5, cap5, e5⟩ := ho5.slice_
      subst e5
      have bc5 := BC4.out.fr hf5 (fun e => by have := (OH4.out.blk_lt e).1; omega)
      have ib5 := IB4.out.fr hf5 HN2.out
      have ot5 := HO4.out.fr hf5 (fun g hg hg2 => HSP4.out g hg hg2)
      have hbel5 : Below B w w5 := HBL4.out.trans (hf5.below (B := B) (by omega) (fun k hk => by have := (OH4.out.blk_lt hk).1; omega))
      have sp5 : Sep vt4 (.slice A5 hs2.length cap5) := fun g hg hg2 => HSP4.out g hg (hbk5 g hg2)
      have n5 : blk (.slice A5 hs2.length cap5) ≠ some ib := fun e => HN2.out (hbk5 ib e)
      have hs5 := hf5.size
      have j0 := (ib5.setOther ⟨B, 3, none⟩ (.slice A5 hs2.length cap5) (by show B ≠ ib; omega)).cell 0
      simp only [List.getElem?_cons_zero] at j0
      have j1 := ib5.cell 0
      simp only [List.getElem?_cons_zero] at j1
      obtain ⟨q0, q1, q2, q3⟩ := bc5.four
      have z3 := bc5.frozen 3
      have bc6 := (bc5.set_ 3 (.slice A5 hs2.length cap5)).alloc (.cells #[.int .i64 id] 3)
      simp only [List.set_cons_succ, List.set_cons_zero] at bc6
      have f6 : Fr (fun k => k = B) w5 ((w5.setCell ⟨B, 3, none⟩ (.slice A5 hs2.length cap5)).alloc (.cells #[.int .i64 id] 3)) := (Fr.setCell w5 ⟨B, 3, none⟩ _ (fun k => k = B) rfl).thenAlloc _
      have ot6 := ot5.fr f6 (fun g hg e => by have := (ot5.blk_lt hg).1; omega)
      have oh6 := ho5.fr f6 (fun g hg e => by have := (ho5.blk_lt hg).1; omega)
      have ib6 := Bx.new (w5.setCell ⟨B, 3, none⟩ (.slice A5 hs2.length cap5)) 3 [.int .i64 id]
      change Bx ((w5.setCell ⟨B, 3, none⟩ (.slice A5 hs2.length cap5)).alloc (.cells #[.int .i64 id] 3)) _ _ _ at ib6
      have hbel6 : Below B w ((w5.setCell ⟨B, 3, none⟩ (.slice A5 hs2.length cap5)).alloc (.cells #[.int .i64 id] 3)) := (hbel5.setCell (p := ⟨B, 3, none⟩) (Nat.le_refl _) _).alloc (by simp [World.setCell]; omega) _
      rw [show (w5.setCell ⟨B, 3, none⟩ (.slice A5 hs2.length cap5)).heap.size = w5.heap.size by simp [World.setCell]] at ib6
      have OT5 := Lib.hid ot5
      have OH5 := Lib.hid ho5
      have BC6 := Lib.hid bc6
      have OT6 := Lib.hid ot6
      have OH6 := Lib.hid oh6
      have IB6 := Lib.hid ib6
      have HBL6 := Lib.hid hbel6
      have SP5 := Lib.hid sp5
      have N5 := Lib.hid n5
      obtain ⟨r0, r1, r2, r3⟩ := BC6.out.four
      clear ho5 hf5 hbk5 bc5 ib5 ot5 hbel5 sp5 n5 bc6 f6 ot6 oh6 ib6 hbel6 hhs BC4 IB4 OH4 HO4 HSP4 HBL4 HN2
      go_wp2_with fail
      clear q0 q1 q2 q3 z3 j0 j1 r0 r1 r2 r3
      have hs6 : ((w5.setCell ⟨B, 3, none⟩ (.slice A5 hs2.length cap5)).alloc (.cells #[.int .i64 id] 3)).heap.size = w5.heap.size + 1 := by simp [World.setCell]
      generalize ((w5.setCell ⟨B, 3, none⟩ (.slice A5 hs2.length cap5)).alloc (.cells #[.int .i64 id] 3)) = w6 at *
      refine (excess_any c0 c1 c2 _ hs2 vn l va al vd ld want w6 HND2.out (by omega) hll OH6.out.rd (HN.out.below HBL6.out (Nat.le_of_eq HBZ.out)) (HA.out.below HBL6.out (Nat.le_of_eq HBZ.out)) (HD.out.below HBL6.out (Nat.le_of_eq HBZ.out))).mono ?_
      rintro e w7 ⟨rfl, hb7⟩
      obtain ⟨B5, hB5⟩ : ∃ b, w5.heap.size = b := ⟨_, rfl⟩
      rw [hB5] at IB6 hs6 hs5 ⊢
      have hBB : B < B5 := by have := BC6.out.lt; have := OT5.out; omega
      have ib7 := IB6.out.below' hb7
      have i0 := ib7.cell 0
      have z0 := ib7.frozen 0
      simp only [List.getElem?_cons_zero] at i0
      have f8 : ∀ x : Int, Fr (fun k => k = B5) w7 (w7.setCell ⟨B5, 0, none⟩ (.int .i64 x)) := fun x => Fr.setCell w7 ⟨B5, 0, none⟩ _ (fun k => k = B5) rfl
      have nt : blk vt4 ≠ some B5 := fun e => by have := (OT5.out.blk_lt e).2; omega
      have nh : blk (.slice A5 hs2.length cap5) ≠ some B5 := fun e => by have := (OH5.out.blk_lt e).2; omega
      have bc8 := fun x => (BC6.out.below' hb7).fr (f8 x) (by omega)
      have ib8 := fun x : Int => ib7.set_ 0 (.int .i64 x)
      have ot8 := fun x => (OT6.out.below hb7 (Nat.le_refl _)).fr (f8 x) (fun g hg e => nt (by rw [hg, e]))
      have oh8 := fun x => (OH6.out.below hb7 (Nat.le_refl _)).fr (f8 x) (fun g hg e => nh (by rw [hg, e]))
      have hbel8 := fun x => (HBL6.out.trans (hb7.mono (by omega))).trans ((f8 x).below (B := B) (by have := hb7.size; omega) (fun k hk => by omega))
      simp only [List.set_cons_zero] at ib8
      have BC8 := Lib.hid bc8
      have IB8 := Lib.hid ib8
      have OT8 := Lib.hid ot8
      have OH8 := Lib.hid oh8
      have HBL8 := Lib.hid hbel8
      have NT := Lib.hid nt
      have NH := Lib.hid nh
      unfold optI
      obtain ⟨o3, ho3⟩ : ∃ o, excT hs2 l al ld want = o := ⟨_, rfl⟩
      rw [ho3]
      have HE3 := Lib.hid ho3
      clear hb7 hB5 ib7 f8 nt nh bc8 ib8 ot8 oh8 hbel8 ho3 OT5 OH5 BC6 OT6 OH6 IB6 HBL6 hs6
      go_wp2_with fail
      go_roundw
      case rel => exact ⟨td ++ [id], hs2, B5, .slice A5 hs2.length cap5, rfl, by rw [HE3.out], by rw [HE3.out]; exact IB8.out _, BC8.out _, OT8.out _, OH8.out _, SP5.out, NT.out, NH.out, hBB, HBL8.out _, HST.out, HND2.out, by simp; omega⟩
      case measure =>
        obtain ⟨A8, c8, e8⟩ := (OT8.out 0).slice_
        rw [e8]
        simp [lenS]
        omega

end Go.Proofs.Ytflndnbjdhbppaa

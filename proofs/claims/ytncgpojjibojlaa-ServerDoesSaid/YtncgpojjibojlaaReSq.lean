/- replica.Scrub: its contract. -/
import Derived.Test.YtncgpojjibojlaaReO4q
import Derived.Test.YtncgpojjibojlaaDelRScrq
import Derived.Test.YtncgpojjibojlaaGiq
namespace Go.Proofs.Ytncgpojjibojlaa
open Go Go.RowKit Go.Sort

def badsI (l : List Re) : List Int := (l.filter (fun z => z.2.2.2.2)).map (fun z => z.1)
def ScrJ (bx B : Nat) (pre : List Re) (W : World) : Prop := ∃ gv, Bx W bx 29 [gv] ∧ Own W B 3 1 gv (badsI pre).length ((badsI pre).flatMap inC) ∧ B ≤ W.heap.size
theorem heap_new2 (w : World) (o o' : Obj) : ((w.alloc o).alloc o').heap[w.heap.size + 1]? = some o' := by
  have := heap_alloc_new (w.alloc o) o'
  rw [World.size_alloc] at this
  exact this
theorem badsI_snoc (pre : List Re) (x : Re) : badsI (pre ++ [x]) = badsI pre ++ (if x.2.2.2.2 then [x.1] else []) := by
  unfold badsI
  rw [List.filter_append, List.map_append]
  cases h : x.2.2.2.2 <;> simp [h]
theorem badsI_len (pre : List Re) : (badsI pre).length ≤ pre.length := by unfold badsI; rw [List.length_map]; exact List.length_filter_le _ _

set_option maxHeartbeats 1000000 in
theorem pred_scr (bx B : Nat) (hbB : bx < B) : PredR_scr (ScrJ bx B) (fun k => k = bx ∨ B ≤ k) (.pointer (some ⟨bx, 0, none⟩)) (fun x => x.2.2.2.2) := by
  intro x pre W0 W hpl hj hb0
  obtain ⟨gv, hx, ho, hB⟩ := hj
  have hs := badsI_snoc pre x
  have hbl := badsI_len pre
  have hg0 : ∀ q, blk gv = some q → q < W0.heap.size := fun q hq => (ho.blk_lt hq).2
  have hbx0 : bx < W0.heap.size := hx.lt
  have hsz := hb0.size
  obtain ⟨x0, x1, x2, x3, x4⟩ := x
  simp only at hs ⊢
  have HX := Lib.hid ((hx.below' hb0).alloc (.cells #[.int .i64 x0, .int .i64 x1, .int .u32 x2, .bool x3, .bool x4] 52))
  have HO := Lib.hid ((ho.below hb0 (Nat.le_refl _)).alloc (.cells #[.int .i64 x0, .int .i64 x1, .int .u32 x2, .bool x3, .bool x4] 52))
  have HG := Lib.hid hg0
  have HS := Lib.hid hs
  obtain ⟨Ag, capg, eg⟩ := ho.slice_
  subst eg
  have q0 := HX.out.cell 0
  have z0 := HX.out.frozen 0
  simp only [List.getElem?_cons_zero] at q0
  have hal := below_one W (.cells #[.int .i64 x0, .int .i64 x1, .int .u32 x2, .bool x3, .bool x4] 52)
  have HAL := Lib.hid hal
  clear hx ho hb0 hg0 hs hal
  cases x4 with
  | false =>
    go_enter Try.func79, Try.ntmps79
    go_wp2_with fail
    go_ret
    refine ⟨rfl, ⟨_, HX.out, ?_, by simp; omega⟩, Fr.of_below HAL.out, fun k _ h => HAL.out.block k h⟩
    have e1 := HS.out
    simp only [Bool.false_eq_true, if_false, List.append_nil] at e1
    rw [e1]
    exact HO.out
  | true =>
    have e1 := HS.out
    simp only [if_true] at e1
    have HE := Lib.hid e1
    clear e1 HS
    go_enter Try.func79, Try.ntmps79
    go_wp2_with (at_builtin; refine wpList_app_in rfl (.tmp 6) (.tmp 9) rfl B (.slice Ag (badsI pre).length capg) (badsI pre) rfl (HO.out.alloc _) (.slice (some ⟨W.heap.size + 1, 0, none⟩) 1 1) [x0] rfl (rd_one (t := 3) (heap_new2 _ _ _) rfl) (by simp; omega) (by simp; omega) ?_; intro v4 w4 hown4 hfr4 hb4; obtain ⟨m, hm⟩ : ∃ m, ((badsI pre) ++ [x0]).length = m := ⟨_, rfl⟩; have HM := Lib.hid hm; rw [hm] at hown4; clear hm; obtain ⟨A4, cap4, e4⟩ := hown4.slice_; subst e4; have HO4 := Lib.hid hown4; have HF4 := Lib.hid hfr4; have hx4 := (HX.out.alloc (.cells #[.int .i64 x0] 3)).fr hfr4 (fun e => by have := (HO.out.blk_lt e).1; omega); have HX4 := Lib.hid hx4; have u0 := hx4.cell 0; have z4 := hx4.frozen 0; have hy4 := (Bx.new W 52 [.int .i64 x0, .int .i64 x1, .int .u32 x2, .bool x3, .bool true]); have hy5 := (hy4.alloc (.cells #[.int .i64 x0] 3)).fr hfr4 (fun e => by have := HG.out _ e; omega); have hy6 : Bx (w4.setCell ⟨bx, 0, none⟩ (.slice A4 m cap4)) W.heap.size 52 [.int .i64 x0, .int .i64 x1, .int .u32 x2, .bool x3, .bool true] := (Below.heap_setCell _ _ _ _ (fun e => by have e' : W.heap.size = bx := e; omega)).trans hy5; obtain ⟨y0, y1, y2, y3, y4⟩ := hy6.five; simp only [List.getElem?_cons_zero] at u0; clear hown4 hfr4 hb4 hx4 hy4 hy5 hy6)
    go_ret
    have hx5 := HX4.out.set1 0 (.slice A4 m cap4)
    simp only [List.set_cons_zero] at hx5
    have hf5 : Fr (fun k => k = bx) w4 (w4.setCell ⟨bx, 0, none⟩ (.slice A4 m cap4)) := Fr.setCell _ ⟨bx, 0, none⟩ _ (fun k => k = bx) rfl
    have ho5 := HO4.out.fr hf5 (fun g hg e => by have := (HO4.out.blk_lt hg).1; have e' : g = bx := e; omega)
    have hfr : Fr (fun k => k = bx ∨ blk (.slice Ag (badsI pre).length capg) = some k) W (w4.setCell ⟨bx, 0, none⟩ (.slice A4 m cap4)) :=
      ((Fr.of_below (HAL.out.alloc (by simp) (.cells #[.int .i64 x0] 3))).trans HF4.out (fun _ h => .inl (.inr h))).trans hf5 (fun _ h => .inl (.inl h))
    refine ⟨rfl, ⟨_, hx5, by rw [HE.out, HM.out]; exact ho5, by have := hfr.size; omega⟩, hfr.weak (fun q hq => .inl (hq.imp id (fun h => (HO.out.blk_lt h).1))), fun k h1 h2 => hfr.block k h2 (fun hq => ?_)⟩
    rcases hq with rfl | hq
    · omega
    · have := HG.out _ hq
      omega

def ScrE (l : List Re) (w : World) (e : Ending) (w' : World) : Prop := ∃ v1 v2, e = .returned (.tuple #[v1, v2]) ∧ Own w' w.heap.size 52 5 v1 ((fairR l).filter (fun z => !z.2.2.2.2)).length (((fairR l).filter (fun z => !z.2.2.2.2)).flatMap reC) ∧
  Own w' w.heap.size 3 1 v2 (badsI (fairR l)).length ((badsI (fairR l)).flatMap inC) ∧ Below w.heap.size w w'

set_option maxHeartbeats 1000000 in
theorem without_scr (v : Value) (l : List Re) (bx : Nat) (w : World) (hl : l.length ≤ 1000) (hR : Rd w 5 v l.length (l.flatMap reC)) (hbx : Bx w bx 29 [.slice none 0 0]) :
    Calls Try.prog 75 #[v, .func (.func 79) #[] #[.pointer (some ⟨bx, 0, none⟩)]] w fun e w' => ∃ v1 gv, e = .returned v1 ∧ Own w' w.heap.size 52 5 v1 ((fairR l).filter (fun z => !z.2.2.2.2)).length (((fairR l).filter (fun z => !z.2.2.2.2)).flatMap reC) ∧ Bx w' bx 29 [gv] ∧ Own w' w.heap.size 3 1 gv (badsI (fairR l)).length ((badsI (fairR l)).flatMap inC) ∧ Fr (fun k => k = bx) w w' := by
  have HR := Lib.hid hR
  have HBX := Lib.hid hbx
  have hbl := hbx.lt
  clear hR hbx
  go_enter Try.func75, Try.ntmps75
  go_wp2_with fail
  refine (fairR_any v l w hl HR.out).mono ?_
  rintro e w1 ⟨v1, rfl, ho1, hb1⟩
  have hfl := fairR_len l
  have HO1 := Lib.hid ho1
  have HB1 := Lib.hid hb1
  have hs1 := hb1.size
  have HX1 := Lib.hid (HBX.out.below' hb1)
  clear ho1 hb1
  go_wp2_with fail
  refine (deleteR_scr (ScrJ bx w1.heap.size) (fun k => k = bx ∨ w1.heap.size ≤ k) w.heap.size v1 (fairR l) (.pointer (some ⟨bx, 0, none⟩)) (fun x : Re => x.2.2.2.2) w1 (by omega) hs1 HO1.out (fun g hg hs => by have := HO1.out.blk_lt hg; omega) ⟨_, HX1.out, Own.nil_ _ _ _ _, Nat.le_refl _⟩ (fun pre W W' ⟨gv, hx, ho, hB⟩ hf => ⟨gv, hx.fr hf (fun e => by have := (HO1.out.blk_lt e).1; omega), ho.fr hf (fun g hg e => by have := (ho.blk_lt hg).1; have := (HO1.out.blk_lt e).2; omega), Nat.le_trans hB hf.size⟩) (pred_scr bx w1.heap.size (by omega))).mono ?_
  rintro e w2 ⟨v2, rfl, ho2, hf2, _, gv, hx2, hog, _⟩
  have HO2 := Lib.hid ho2
  have HX2 := Lib.hid hx2
  have HG2 := Lib.hid (hog.mono (base' := w.heap.size) hs1)
  have HF2 : Hid (Fr (fun k => k = bx) w w2) := (Fr.of_below HB1.out).trans hf2 (fun k hk => by
    rcases hk with hk | hk | hk
    · exact .inr (HO1.out.blk_lt hk).1
    · exact .inl hk
    · exact .inr (by omega))
  clear ho2 hf2 hx2 hog
  go_wp2_with fail
  go_ret
  exact ⟨_, gv, rfl, HO2.out, HX2.out, HG2.out, HF2.out⟩

set_option maxHeartbeats 1000000 in
theorem scrub_any (v : Value) (l : List Re) (w : World) (hl : l.length ≤ 1000) (hR : Rd w 5 v l.length (l.flatMap reC)) :
    Calls Try.prog 38 #[v] w (ScrE l w) := by
  have hmf : ∀ (fn : Fn) (first cap : Array Value) (w : World), (Instr.makeFunc fn first cap).run Try.prog w = .ok (.func fn first cap) w := fun _ _ _ _ => rfl
  have HR := Lib.hid hR
  clear hR
  go_enter Try.func38, Try.ntmps38
  go_wp2_with fail
  refine (without_scr v l w.heap.size (w.alloc (.cells #[.slice none 0 0] 29)) hl (HR.out.alloc _) (Bx.new w 29 [.slice none 0 0])).mono ?_
  rintro e w1 ⟨v1, gv, rfl, ho1, hx1, hg1, hf1⟩
  have HO1 := Lib.hid (ho1.mono (base' := w.heap.size) (by simp))
  have HG1 := Lib.hid (hg1.mono (base' := w.heap.size) (by simp))
  have HB1 : Hid (Below w.heap.size w w1) := (below_one w _).trans (hf1.below (B := w.heap.size) (by simp) (fun k hk => Nat.le_of_eq (by have e' : k = w.heap.size := hk; exact e'.symm)))
  have q0 := hx1.cell 0
  simp only [List.getElem?_cons_zero] at q0
  clear ho1 hx1 hg1 hf1
  go_wp2_with fail
  go_quiet (fail)
  go_wp2_with fail
  refine bodyPost_ret (v := .tuple #[v1, gv]) (by simp [results, Try.results38, go_sem]) rfl ?_
  exact ⟨_, _, rfl, HO1.out.drewN nq, HG1.out.drewN nq, below_drewN HB1.out nq⟩

end Go.Proofs.Ytncgpojjibojlaa

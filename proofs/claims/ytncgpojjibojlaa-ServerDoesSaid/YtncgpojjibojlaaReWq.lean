/- replica.Restart, Abort, Remove's closures, replica.without with each: their contracts. -/
import Derived.Test.YtncgpojjibojlaaDelRRstq
import Derived.Test.YtncgpojjibojlaaDelRAboq
import Derived.Test.YtncgpojjibojlaaDelRRemq
namespace Go.Proofs.Ytncgpojjibojlaa
open Go Go.RowKit Go.Sort

theorem keep_new {W0 W w' : World} (hb : Below W.heap.size W w') : ∀ k, W0.heap.size ≤ k → k < W.heap.size → w'.heap[k]? = W.heap[k]? := fun k _ h => hb.block k h

theorem pred_rst (S : Nat → Prop) : PredR_rst (fun _ _ => True) S (fun x => x.2.2.2.1) := by
  intro x pre W0 W _ _ hb0
  obtain ⟨x0, x1, x2, x3, x4⟩ := x
  simp only
  clear hb0
  go_enter Try.func76, Try.ntmps76
  go_wp2_with fail
  go_ret
  exact ⟨rfl, trivial, Fr.of_below (below_one _ _), keep_new (below_one _ _)⟩

theorem pred_abo (S : Nat → Prop) (bx : Nat) (c : Int) : PredR_abo (fun _ W => Bx W bx 3 [.int .i64 c]) S (.pointer (some ⟨bx, 0, none⟩)) (fun x => x.1 == c && x.2.2.2.1) := by
  intro x pre W0 W _ hj hb0
  have hx := hj.below' hb0
  have q0 := hx.cell 0
  simp only [List.getElem?_cons_zero] at q0
  obtain ⟨x0, x1, x2, x3, x4⟩ := x
  have h1 := hx.alloc (.cells #[.int .i64 x0, .int .i64 x1, .int .u32 x2, .bool x3, .bool x4] 52)
  have q1 := h1.cell 0
  simp only [List.getElem?_cons_zero] at q1
  have H1 := Lib.hid h1
  simp only
  clear hb0 hj hx h1 q0
  by_cases he : x0 = c
  · have he' : (x0 == c) = true := by simpa using he
    clear he
    cases x3 with
    | true =>
      go_enter Try.func77, Try.ntmps77
      go_wp2_with fail
      go_ret
      exact ⟨by rw [he']; rfl, H1.out, Fr.of_below (below_one _ _), keep_new (below_one _ _)⟩
    | false =>
      go_enter Try.func77, Try.ntmps77
      go_wp2_with fail
      go_ret
      exact ⟨by rw [he']; rfl, H1.out, Fr.of_below (below_one _ _), keep_new (below_one _ _)⟩
  · have he' : (x0 == c) = false := by simpa using he
    clear he
    go_enter Try.func77, Try.ntmps77
    go_wp2_with fail
    go_ret
    exact ⟨by rw [he']; rfl, H1.out, Fr.of_below (below_one _ _), keep_new (below_one _ _)⟩

theorem pred_rem (S : Nat → Prop) (bx : Nat) (c : Int) : PredR_rem (fun _ W => Bx W bx 3 [.int .i64 c]) S (.pointer (some ⟨bx, 0, none⟩)) (fun x => x.1 == c && !x.2.2.2.1) := by
  intro x pre W0 W _ hj hb0
  have hx := hj.below' hb0
  have q0 := hx.cell 0
  simp only [List.getElem?_cons_zero] at q0
  obtain ⟨x0, x1, x2, x3, x4⟩ := x
  have h1 := hx.alloc (.cells #[.int .i64 x0, .int .i64 x1, .int .u32 x2, .bool x3, .bool x4] 52)
  have q1 := h1.cell 0
  simp only [List.getElem?_cons_zero] at q1
  have H1 := Lib.hid h1
  simp only
  clear hb0 hj hx h1 q0
  by_cases he : x0 = c
  · have he' : (x0 == c) = true := by simpa using he
    clear he
    cases x3 with
    | true =>
      go_enter Try.func78, Try.ntmps78
      go_wp2_with fail
      go_ret
      exact ⟨by rw [he']; rfl, H1.out, Fr.of_below (below_one _ _), keep_new (below_one _ _)⟩
    | false =>
      go_enter Try.func78, Try.ntmps78
      go_wp2_with fail
      go_ret
      exact ⟨by rw [he']; rfl, H1.out, Fr.of_below (below_one _ _), keep_new (below_one _ _)⟩
  · have he' : (x0 == c) = false := by simpa using he
    clear he
    go_enter Try.func78, Try.ntmps78
    go_wp2_with fail
    go_ret
    exact ⟨by rw [he']; rfl, H1.out, Fr.of_below (below_one _ _), keep_new (below_one _ _)⟩

theorem without_rst (v : Value) (l : List Re) (w : World) (hl : l.length ≤ 1000) (hR : Rd w 5 v l.length (l.flatMap reC)) :
    Calls Try.prog 75 #[v, .func (.func 76) #[] #[]] w (FreshR ((fairR l).filter (fun z => !(fun x : Re => x.2.2.2.1) z)) w) := by
  have HR := Lib.hid hR
  skip
  clear hR 
  go_enter Try.func75, Try.ntmps75
  go_wp2_with fail
  refine (fairR_any v l w hl HR.out).mono ?_
  rintro e w1 ⟨v1, rfl, ho1, hb1⟩
  have hfl := fairR_len l
  have HO1 := Lib.hid ho1
  have HB1 := Lib.hid hb1
  have hs1 := hb1.size
  skip
  clear ho1 hb1
  go_wp2_with fail
  refine (deleteR_rst (fun _ _ => True) (fun _ => False) w.heap.size v1 (fairR l) (fun x : Re => x.2.2.2.1) w1 (by omega) hs1 HO1.out (fun _ _ h => h) trivial (fun _ _ _ _ _ => trivial) (pred_rst _)).mono ?_
  rintro e w2 ⟨v2, rfl, ho2, hf2, _, _⟩
  have HO2 := Lib.hid ho2
  have HB2 : Hid (Below w.heap.size w w2) := HB1.out.trans (hf2.below (B := w.heap.size) hs1 (fun k hk => by
    rcases hk with hk | hk
    · exact (HO1.out.blk_lt hk).1
    · exact hk.elim))
  clear ho2 hf2
  go_wp2_with fail
  go_ret
  exact ⟨_, rfl, HO2.out, HB2.out⟩

theorem without_abo (v : Value) (l : List Re) (bx : Nat) (c : Int) (w : World) (hl : l.length ≤ 1000) (hR : Rd w 5 v l.length (l.flatMap reC)) (hbx : Bx w bx 3 [.int .i64 c]) :
    Calls Try.prog 75 #[v, .func (.func 77) #[] #[.pointer (some ⟨bx, 0, none⟩)]] w (FreshR ((fairR l).filter (fun z => !(fun x : Re => x.1 == c && x.2.2.2.1) z)) w) := by
  have HR := Lib.hid hR
  have HBX := Lib.hid hbx
  clear hR hbx
  go_enter Try.func75, Try.ntmps75
  go_wp2_with fail
  refine (fairR_any v l w hl HR.out).mono ?_
  rintro e w1 ⟨v1, rfl, ho1, hb1⟩
  have hfl := fairR_len l
  have HO1 := Lib.hid ho1
  have HB1 := Lib.hid hb1
  have hs1 := hb1.size
  have HBX1 := Lib.hid (HBX.out.below' hb1)
  have hbl := HBX.out.lt
  clear ho1 hb1
  go_wp2_with fail
  refine (deleteR_abo (fun _ W => Bx W bx 3 [.int .i64 c]) (fun _ => False) w.heap.size v1 (fairR l) (.pointer (some ⟨bx, 0, none⟩)) (fun x : Re => x.1 == c && x.2.2.2.1) w1 (by omega) hs1 HO1.out (fun _ _ h => h) HBX1.out (fun _ _ _ h hf => h.fr hf (fun e => by have := (HO1.out.blk_lt e).1; omega)) (pred_abo _ bx c)).mono ?_
  rintro e w2 ⟨v2, rfl, ho2, hf2, _, _⟩
  have HO2 := Lib.hid ho2
  have HB2 : Hid (Below w.heap.size w w2) := HB1.out.trans (hf2.below (B := w.heap.size) hs1 (fun k hk => by
    rcases hk with hk | hk
    · exact (HO1.out.blk_lt hk).1
    · exact hk.elim))
  clear ho2 hf2
  go_wp2_with fail
  go_ret
  exact ⟨_, rfl, HO2.out, HB2.out⟩

theorem without_rem (v : Value) (l : List Re) (bx : Nat) (c : Int) (w : World) (hl : l.length ≤ 1000) (hR : Rd w 5 v l.length (l.flatMap reC)) (hbx : Bx w bx 3 [.int .i64 c]) :
    Calls Try.prog 75 #[v, .func (.func 78) #[] #[.pointer (some ⟨bx, 0, none⟩)]] w (FreshR ((fairR l).filter (fun z => !(fun x : Re => x.1 == c && !x.2.2.2.1) z)) w) := by
  have HR := Lib.hid hR
  have HBX := Lib.hid hbx
  clear hR hbx
  go_enter Try.func75, Try.ntmps75
  go_wp2_with fail
  refine (fairR_any v l w hl HR.out).mono ?_
  rintro e w1 ⟨v1, rfl, ho1, hb1⟩
  have hfl := fairR_len l
  have HO1 := Lib.hid ho1
  have HB1 := Lib.hid hb1
  have hs1 := hb1.size
  have HBX1 := Lib.hid (HBX.out.below' hb1)
  have hbl := HBX.out.lt
  clear ho1 hb1
  go_wp2_with fail
  refine (deleteR_rem (fun _ W => Bx W bx 3 [.int .i64 c]) (fun _ => False) w.heap.size v1 (fairR l) (.pointer (some ⟨bx, 0, none⟩)) (fun x : Re => x.1 == c && !x.2.2.2.1) w1 (by omega) hs1 HO1.out (fun _ _ h => h) HBX1.out (fun _ _ _ h hf => h.fr hf (fun e => by have := (HO1.out.blk_lt e).1; omega)) (pred_rem _ bx c)).mono ?_
  rintro e w2 ⟨v2, rfl, ho2, hf2, _, _⟩
  have HO2 := Lib.hid ho2
  have HB2 : Hid (Below w.heap.size w w2) := HB1.out.trans (hf2.below (B := w.heap.size) hs1 (fun k hk => by
    rcases hk with hk | hk
    · exact (HO1.out.blk_lt hk).1
    · exact hk.elim))
  clear ho2 hf2
  go_wp2_with fail
  go_ret
  exact ⟨_, rfl, HO2.out, HB2.out⟩

end Go.Proofs.Ytncgpojjibojlaa

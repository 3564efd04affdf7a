/- The frame of a law's row: whatever its arguments are, if the call returns true and turns nothing that was there, the row's claim holds; and the opening of arguments. -/
import Derived.Test.YtncgpojjibojlaaGaq
import Derived.Test.YtncgpojjibojlaaGbq
import Derived.Test.YtncgpojjibojlaaRows
import Derived.ProofKit
import Derived.SizedLaws
import Derived.Deep.Slices
import Derived.Deep.Fields
import Derived.Lib.SmallJoins
namespace Go.Proofs.Ytncgpojjibojlaa
open Go Go.RowKit Go.ChangeShapes Go.WideShapes Go.ChangeAt Go.Deep

section
variable {H : Type} {enc : TypeId × Value → H} {P : Program}

theorem trodAll_below (hl : laidOutB P = true) {W W' : World} (hb : Below W.heap.size W W') : ∀ (ts : List TypeId) (vs : List Value) (ds : List (DataW H)) (p : List MemPlace),
    (∀ t ∈ ts, P.readableRec t = true ∧ t < P.types.size) → (∀ x ∈ p, x.block < W.heap.size) → DataW.TrodAll enc P W 0 (fun _ => true) true ts vs ds p →
    DataW.TrodAll enc P W' 0 (fun b => decide (b < W.heap.size)) true ts vs ds p
  | [], [], [], _, _, _, h => h
  | t :: ts, v :: vs, d :: ds, p, ht, hp, h => by
    obtain ⟨p1, q1, h1, h2, rfl⟩ := h
    exact ⟨p1, q1, Below.trod hl (ht t (by simp)).1 (ht t (by simp)).2 h1 hb (fun x hx => hp x (by simp [hx])),
      trodAll_below hl hb ts vs ds q1 (fun t' h' => ht t' (by simp [h'])) (fun x hx => hp x (by simp [hx])) h2, rfl⟩
  | [], [], _ :: _, _, _, _, h => h.elim
  | [], _ :: _, _, _, _, _, h => h.elim
  | _ :: _, [], _, _, _, _, h => h.elim
  | _ :: _, _ :: _, [], _, _, _, h => h.elim

theorem law_post {f : Func} {s : ChangeSpec} (hl : laidOutB P = true) (hr : ∀ t ∈ f.params.toList, P.readableRec t = true ∧ t < P.types.size) (hvars : s.vars = []) {tb : TypeId} (htb : P.underlying tb = some .bool) (hres : f.resultTypes = #[tb])
    {W W' : World} {args : Array Value} {ds gs : List (DataW H)} {before : List MemPlace} (hW : DataW.Whole enc P f.params.toList s.vars false W args.toList ds gs before)
    (hspec : (s.fn H (ds ++ gs)).results = [.lit (.bool true)] ∧ (s.fn H (ds ++ gs)).args = ds ∧ (s.fn H (ds ++ gs)).vars = [])
    (hb : Below W.heap.size W W') : s.post enc P f false true false false W args (.bool true) W' := by
  have hlt : ∀ p ∈ before, p.block < W.heap.size := fun p hp => hW.lt p hp
  obtain ⟨h1, h2, h3⟩ := hspec
  have hW' := hW
  obtain ⟨p, q, hA, hV, rfl, _, _⟩ := hW
  refine ⟨ds, gs, p ++ q, [], p, [], hW', ?_, ?_, ?_, hb.frame _, fun h => by cases h⟩
  · rw [h1, hres]
    exact ⟨[], [], shut_bool htb true, rfl, rfl⟩
  · rw [h2]
    exact trodAll_below hl hb _ _ _ _ hr (fun x hx => hlt x (by simp [hx])) hA
  · rw [h3, hvars]
    rfl

/-- A struct of ints, read off its cells. -/
theorem struct_ints {W : World} {e : TypeId} {fs : Array Field} (he : P.underlying e = some (.struct fs)) (hone : oneCellFields P fs = true) (hC : P.cellsOf e = fs.size) (hint : ∀ (j : Nat) (f : Field), fs[j]? = some f → P.underlying f.type = some (.int .i64))
    {n : Nat} {cs : List Value} {y : DataW H × List MemPlace} (h : DataW.trod enc P W 0 (fun _ => true) true n e cs = some y) : ∃ zs : List Int, zs.length = fs.size ∧ cs = zs.map (Value.int .i64) ∧ ∀ z ∈ zs, (Lit.int .i64 z).wf = true := by
  obtain ⟨ys, n', hn', hy, hlen, hyl, hf⟩ := DataW.trod_struct he h
  rw [hC] at hlen
  have hel : ∀ j (hj : j < cs.length), ∃ z : Int, cs[j] = .int .i64 z ∧ (Lit.int .i64 z).wf = true := fun j hj => by
    have hjf : j < fs.size := by omega
    have hfj : fs[j]? = some fs[j] := Array.getElem?_eq_getElem hjf
    obtain ⟨ho, hk⟩ := hone_of hone j _ hfj
    have h1 := hf j _ hfj
    rw [ho, hk] at h1
    have hone' : (cs.drop j).take 1 = [cs[j]] := by rw [List.drop_eq_getElem_cons hj]; rfl
    rw [hone', List.getElem?_eq_getElem (show j < ys.length by omega)] at h1
    obtain ⟨z, hz, _, hw⟩ := DataW.trod_int (hint j _ hfj) h1
    exact ⟨z, by simpa using hz, hw⟩
  refine ⟨cs.map (fun v => intOf v), by simp [hlen], ?_, ?_⟩
  · apply List.ext_getElem
    · simp
    · intro j h1 h2
      obtain ⟨z, hz, _⟩ := hel j h1
      simp [hz, intOf]
  · intro z hz
    obtain ⟨v, hv, rfl⟩ := List.mem_map.1 hz
    obtain ⟨j, hj, rfl⟩ := List.mem_iff_getElem.1 hv
    obtain ⟨z, hz, hw⟩ := hel j hj
    rw [hz]
    exact hw

/-- A slice that came in, whose elements read as things of some kind. -/
theorem open_rows {W : World} {t e : TypeId} {α : Type} (f : α → List Value) (k : Nat) (hk0 : 0 < k) (hk : ∀ x, (f x).length = k) (ht : P.underlying t = some (.slice e)) (hc : P.cellsOf e = k)
    (he : ∀ (n : Nat) (cs : List Value) (y : DataW H × List MemPlace), DataW.trod enc P W 0 (fun _ => true) true n e cs = some y → cs.length = k → ∃ x, cs = f x)
    {v : Value} {d : DataW H} {p : List MemPlace} (hv : ∃ a len cap, v = .slice a len cap) (hlt : ∀ x ∈ p, x.block < W.heap.size) (h : DataW.Trod enc P W 0 (fun _ => true) true t v d p) :
    ∃ l : List α, Rd W k v l.length (l.flatMap f) := by
  obtain ⟨a0, len0, cap0, rfl⟩ := hv
  obtain ⟨fuel, hf⟩ := h
  rcases open_slice ht hf with ⟨hcs, _⟩ | ⟨a, len, cap, m, n, D, Pl, hcs, hb, hl, hm, hmm, hx, hi⟩
  · simp only [Value.cells] at hcs
    have hcs' : Value.slice a0 len0 cap0 = .slice none 0 0 := by simpa using hcs
    rw [hcs']
    exact ⟨[], by simpa using Rd.nil_ W k⟩
  · simp only [Value.cells] at hcs
    have hcs' : Value.slice a0 len0 cap0 = .slice (some a) len cap := by simpa using hcs
    rw [hcs']
    simp only [if_true] at hmm
    subst hmm
    rw [hc] at hi hx
    have hel : ∀ i, i < len → ∃ x : α, ∀ j u, (f x)[j]? = some u → W.cell? (a.add (i * k + j)) = some u := fun i hil => by
      obtain ⟨cs', hcell, htr⟩ := hi i (by omega)
      obtain ⟨_, hcl, hat⟩ := World.cells?_some hcell
      obtain ⟨x, rfl⟩ := he _ _ _ htr hcl
      refine ⟨x, fun j u hj => ?_⟩
      have hjk : j < k := by
        have := (List.getElem?_eq_some_iff.1 hj).1
        omega
      rw [← Go.Deep.add_add, hat j hjk, hj]
    obtain ⟨g, hg⟩ : ∃ g : Nat → Option α, ∀ i, i < len → ∃ x, g i = some x ∧ ∀ j u, (f x)[j]? = some u → W.cell? (a.add (i * k + j)) = some u := by
      refine ⟨fun i => if h : i < len then some (Classical.choose (hel i h)) else none, fun i hil => ?_⟩
      exact ⟨_, by simp [hil], Classical.choose_spec (hel i hil)⟩
    refine ⟨(List.range len).filterMap g, ?_⟩
    have hlen : ∀ n, n ≤ len → ((List.range n).filterMap g).length = n := fun n => by
      induction n with
      | zero => simp
      | succ n ih =>
        intro hn
        obtain ⟨x, hx, _⟩ := hg n (by omega)
        rw [List.range_succ, List.filterMap_append, List.length_append, ih (by omega)]
        simp [hx]
    have hgetn : ∀ n, n ≤ len → ∀ i, i < n → ∀ x, g i = some x → ((List.range n).filterMap g)[i]? = some x := fun n => by
      induction n with
      | zero => intro _ i h; omega
      | succ n ih =>
        intro hn i hi x hx
        rw [List.range_succ, List.filterMap_append]
        by_cases e : i < n
        · rw [List.getElem?_append_left (by rw [hlen n (by omega)]; exact e)]
          exact ih (by omega) i e x hx
        · obtain rfl : i = n := by omega
          rw [List.getElem?_append_right (by rw [hlen i (by omega)]; exact Nat.le_refl _), hlen i (by omega), Nat.sub_self]
          simp [hx]
    have hget := hgetn len (Nat.le_refl _)
    have hL := hlen len (Nat.le_refl _)
    rw [hL]
    refine ⟨by rw [flat_len f k hk, hL], some a, _, rfl, hl, hm, fun hpos => ?_⟩
    have hfirst : ∃ u, W.cell? a = some u := by
      obtain ⟨x, hx, hcx⟩ := hg 0 hpos
      have h0 : (f x)[0]? = some ((f x)[0]'(by rw [hk]; exact hk0)) := List.getElem?_eq_getElem _
      have := hcx 0 _ h0
      simp [Addr.add] at this
      exact ⟨_, this⟩
    obtain ⟨u0, hu0⟩ := hfirst
    have hsp := World.cell?_spot hu0
    obtain ⟨b, off, spot⟩ := a
    simp only at hsp
    subst hsp
    refine ⟨b, off, rfl, World.block_lt_of_cell? W _ hu0, fun j u hj => ?_⟩
    have hjl : j < len * k := by
      have := (List.getElem?_eq_some_iff.1 hj).1
      rw [flat_len f k hk, hL] at this
      exact this
    have hq : j / k * k + j % k = j := by rw [Nat.mul_comm]; exact Nat.div_add_mod j k
    have hr := Nat.mod_lt j hk0
    have hqi : j / k < len := Nat.div_lt_of_lt_mul (by rw [Nat.mul_comm]; exact hjl)
    obtain ⟨x, hx, hcx⟩ := hg (j / k) hqi
    rw [← hq, flat_get f k hk _ _ _ hr, hget _ hqi x hx] at hj
    have := hcx _ _ hj
    rw [hq, Go.WideShapes.add_plain] at this
    exact this
end

end Go.Proofs.Ytncgpojjibojlaa

/- The opening of a law's arguments. -/
namespace Go.Proofs.Ytncgpojjibojlaa
open Go Go.RowKit Go.ChangeShapes Go.WideShapes Go.ChangeAt Go.Joins

theorem ownT : ownKnob Try.prog.godebug = none := by kernel_rfl
set_option maxRecDepth 1000000 in
theorem laidT : laidOutB Try.prog = true := by kernel_rfl

section
variable {H : Type} {enc : TypeId × Value → H} {W : World} {r : Reach} {b0 : Nat} {v : Value} {d : DataW H} {p : List MemPlace}
set_option maxRecDepth 1000000 in
theorem open_intsT (hv : Value.okWide Try.prog W r b0 29 v) (hlt : ∀ x ∈ p, x.block < W.heap.size) (h : DataW.Trod enc Try.prog W 0 (fun _ => true) true 29 v d p) : ∃ l : List Int, Rd W 1 v l.length (l.flatMap inC) := by
  refine open_rows inC 1 (by omega) inC_len Try.underlying29 (by kernel_rfl) (fun n cs y hy hl => ?_) (okWide_slice Try.underlying29 hv) hlt h
  obtain ⟨z, hz, _, _⟩ := DataW.trod_int Try.underlying3 hy
  exact ⟨z, hz⟩
end

end Go.Proofs.Ytncgpojjibojlaa

/- The opening of a law's arguments: replicas, ops on replicas. -/
namespace Go.Proofs.Ytncgpojjibojlaa
open Go Go.RowKit Go.ChangeShapes Go.WideShapes Go.ChangeAt Go.Joins

/-- An op: its kind, its replica, the room. -/
abbrev Oq := Int × Re × Int
def oqC (o : Oq) : List Value := .int .i64 o.1 :: (reC o.2.1 ++ [.int .i64 o.2.2])
def oqV (o : Oq) : Value := .agg #[.int .i64 o.1, .int .i64 o.2.1.1, .int .i64 o.2.1.2.1, .int .u32 o.2.1.2.2.1, .bool o.2.1.2.2.2.1, .bool o.2.1.2.2.2.2, .int .i64 o.2.2]
theorem oqC_len (o : Oq) : (oqC o).length = 7 := rfl

theorem list5 {α : Type} {l : List α} (h : l.length = 5) : ∃ a b c d e, l = [a, b, c, d, e] := by
  match l, h with
  | [a, b, c, d, e], _ => exact ⟨a, b, c, d, e, rfl⟩
theorem list7 {α : Type} {l : List α} (h : l.length = 7) : ∃ a b c d e f g, l = [a, b, c, d, e, f, g] := by
  match l, h with
  | [a, b, c, d, e, f, g], _ => exact ⟨a, b, c, d, e, f, g, rfl⟩

section
variable {H : Type} {enc : TypeId × Value → H} {W : World} {r : Reach} {b0 : Nat} {v : Value} {d : DataW H} {p : List MemPlace}
set_option maxRecDepth 1000000 in
theorem cells_re : Try.prog.cellsOf 52 = 5 := by kernel_rfl
set_option maxRecDepth 1000000 in
theorem cells_int : Try.prog.cellsOf 3 = 1 := by kernel_rfl
set_option maxRecDepth 1000000 in
theorem cells_u32 : Try.prog.cellsOf 33 = 1 := by kernel_rfl
set_option maxRecDepth 1000000 in
theorem cells_boo : Try.prog.cellsOf 4 = 1 := by kernel_rfl
set_option maxRecDepth 1000000 in
theorem re_cells {n : Nat} {cs : List Value} {y : DataW H × List MemPlace} (h : DataW.trod enc Try.prog W 0 (fun _ => true) true n 52 cs = some y) : ∃ x : Re, cs = reC x := by
  obtain ⟨ys, n', _, _, hlen, hyl, hf⟩ := DataW.trod_struct Try.underlying52 h
  rw [cells_re] at hlen
  obtain ⟨c0, c1, c2, c3, c4, rfl⟩ := list5 hlen
  obtain ⟨y0, y1, y2, y3, y4, rfl⟩ := list5 hyl
  have h0 := hf 0 _ rfl
  have h1 := hf 1 _ rfl
  have h2 := hf 2 _ rfl
  have h3 := hf 3 _ rfl
  have h4 := hf 4 _ rfl
  simp [cells_int, cells_u32, cells_boo] at h0 h1 h2 h3 h4
  obtain ⟨a, e0, _, _⟩ := DataW.trod_int Try.underlying3 h0
  obtain ⟨b, e1, _, _⟩ := DataW.trod_int Try.underlying3 h1
  obtain ⟨c, e2, _, _⟩ := DataW.trod_int Try.underlying33 h2
  obtain ⟨s, e3, _⟩ := DataW.trod_bool Try.underlying4 h3
  obtain ⟨t, e4, _⟩ := DataW.trod_bool Try.underlying4 h4
  simp only [List.cons.injEq, and_true] at e0 e1 e2 e3 e4
  subst e0 e1 e2 e3 e4
  exact ⟨(a, b, c, s, t), rfl⟩
set_option maxRecDepth 1000000 in
theorem open_replicas (hv : Value.okWide Try.prog W r b0 41 v) (hlt : ∀ x ∈ p, x.block < W.heap.size) (h : DataW.Trod enc Try.prog W 0 (fun _ => true) true 41 v d p) : ∃ l : List Re, Rd W 5 v l.length (l.flatMap reC) := by
  refine open_rows reC 5 (by omega) reC_len Try.underlying41 cells_re (fun n cs y hy hl => ?_) (okWide_slice Try.underlying41 hv) hlt h
  exact re_cells hy
set_option maxRecDepth 1000000 in
theorem agg_of {t : TypeId} {fs : Array Field} (ht : Try.prog.underlying t = some (.struct fs)) (hv : Value.okWide Try.prog W r b0 t v) (h : DataW.Trod enc Try.prog W 0 (fun _ => true) true t v d p) {α : Type} (f : α → List Value)
    (hc : ∀ (n : Nat) (cs : List Value) (y : DataW H × List MemPlace), DataW.trod enc Try.prog W 0 (fun _ => true) true n t cs = some y → ∃ x, cs = f x) : ∃ x : α, v = .agg (f x).toArray := by
  obtain ⟨cs, rfl, hsz⟩ := okWide_struct ht hv
  obtain ⟨n, hn⟩ := h
  obtain ⟨x, hx⟩ := hc _ _ _ hn
  refine ⟨x, ?_⟩
  have : cs.toList = f x := by simpa [Value.cells] using hx
  rw [← this]
set_option maxRecDepth 1000000 in
theorem open_replica (hv : Value.okWide Try.prog W r b0 52 v) (h : DataW.Trod enc Try.prog W 0 (fun _ => true) true 52 v d p) : ∃ x : Re, v = .agg #[.int .i64 x.1, .int .i64 x.2.1, .int .u32 x.2.2.1, .bool x.2.2.2.1, .bool x.2.2.2.2] :=
  agg_of Try.underlying52 hv h reC (fun _ _ _ hy => re_cells hy)
set_option maxRecDepth 1000000 in
theorem oq_cells {n : Nat} {cs : List Value} {y : DataW H × List MemPlace} (h : DataW.trod enc Try.prog W 0 (fun _ => true) true n 69 cs = some y) : ∃ x : Oq, cs = oqC x := by
  obtain ⟨ys, n', _, _, hlen, hyl, hf⟩ := DataW.trod_struct Try.underlying69 h
  rw [show Try.prog.cellsOf 69 = 7 by kernel_rfl] at hlen
  obtain ⟨c0, c1, c2, c3, c4, c5, c6, rfl⟩ := list7 hlen
  obtain ⟨y0, y1, y2, rfl⟩ : ∃ a b c, ys = [a, b, c] := by
    match ys, hyl with
    | [a, b, c], _ => exact ⟨a, b, c, rfl⟩
  have h0 := hf 0 _ rfl
  have h1 := hf 1 _ rfl
  have h2 := hf 2 _ rfl
  simp [cells_int, cells_re] at h0 h1 h2
  obtain ⟨a, e0, _, _⟩ := DataW.trod_int Try.underlying3 h0
  obtain ⟨x, e1⟩ := re_cells h1
  obtain ⟨c, e2, _, _⟩ := DataW.trod_int Try.underlying3 h2
  simp only [List.cons.injEq, and_true] at e0 e2
  subst e0 e2
  exact ⟨(a, x, c), by simp [oqC, ← e1]⟩
set_option maxRecDepth 1000000 in
theorem open_op (hv : Value.okWide Try.prog W r b0 69 v) (h : DataW.Trod enc Try.prog W 0 (fun _ => true) true 69 v d p) : ∃ x : Oq, v = .agg #[.int .i64 x.1, .int .i64 x.2.1.1, .int .i64 x.2.1.2.1, .int .u32 x.2.1.2.2.1, .bool x.2.1.2.2.2.1, .bool x.2.1.2.2.2.2, .int .i64 x.2.2] :=
  agg_of Try.underlying69 hv h oqC (fun _ _ _ hy => oq_cells hy)
set_option maxRecDepth 1000000 in
theorem open_ops (hv : Value.okWide Try.prog W r b0 72 v) (hlt : ∀ x ∈ p, x.block < W.heap.size) (h : DataW.Trod enc Try.prog W 0 (fun _ => true) true 72 v d p) : ∃ l : List Oq, Rd W 7 v l.length (l.flatMap oqC) := by
  refine open_rows oqC 7 (by omega) oqC_len Try.underlying72 (by kernel_rfl) (fun n cs y hy hl => ?_) (okWide_slice Try.underlying72 hv) hlt h
  exact oq_cells hy
end

end Go.Proofs.Ytncgpojjibojlaa

/- The opening of a law's arguments: bytes, ops on a server. -/
namespace Go.Proofs.Ytncgpojjibojlaa
open Go Go.RowKit Go.ChangeShapes Go.WideShapes Go.ChangeAt Go.Joins Go.Deep

section
variable {H : Type} {enc : TypeId × Value → H} {P : Program}
/-- A slice that came in, whose elements read as things of some kind. -/
theorem open_rowsN {W : World} {t e : TypeId} {α : Type} (f : α → List Value) (k : Nat) (hk0 : 0 < k) (hk : ∀ x, (f x).length = k) (ht : P.underlying t = some (.slice e)) (hc : P.cellsOf e = k)
    (he : ∀ (n : Nat) (cs : List Value) (y : DataW H × List MemPlace), DataW.trod enc P W 0 (fun _ => true) true n e cs = some y → cs.length = k → ∃ x, cs = f x)
    {v : Value} {d : DataW H} {p : List MemPlace} (hv : ∃ a len cap, v = .slice a len cap) (h : DataW.Trod enc P W 0 (fun _ => true) true t v d p) :
    ∃ l : List α, Rd W k v l.length (l.flatMap f) := by
  obtain ⟨a0, len0, cap0, rfl⟩ := hv
  obtain ⟨fuel, hf⟩ := h
  rcases open_slice ht hf with ⟨hcs, _⟩ | ⟨a, len, cap, m, n, D, Pl, hcs, hb, hl, hm, hmm, hx, hi⟩
  · simp only [Value.cells] at hcs
    have hcs' : Value.slice a0 len0 cap0 = .slice none 0 0 := by simpa using hcs
    rw [hcs']
    exact ⟨[], by simpa using Rd.nil_ W k⟩
  · simp only [Value.cells] at hcs
    have hcs' : Value.slice a0 len0 cap0 = .slice (some a) len cap := by simpa using hcs
    rw [hcs']
    simp only [if_true] at hmm
    subst hmm
    rw [hc] at hi hx
    have hel : ∀ i, i < len → ∃ x : α, ∀ j u, (f x)[j]? = some u → W.cell? (a.add (i * k + j)) = some u := fun i hil => by
      obtain ⟨cs', hcell, htr⟩ := hi i (by omega)
      obtain ⟨_, hcl, hat⟩ := World.cells?_some hcell
      obtain ⟨x, rfl⟩ := he _ _ _ htr hcl
      refine ⟨x, fun j u hj => ?_⟩
      have hjk : j < k := by
        have := (List.getElem?_eq_some_iff.1 hj).1
        omega
      rw [← Go.Deep.add_add, hat j hjk, hj]
    obtain ⟨g, hg⟩ : ∃ g : Nat → Option α, ∀ i, i < len → ∃ x, g i = some x ∧ ∀ j u, (f x)[j]? = some u → W.cell? (a.add (i * k + j)) = some u := by
      refine ⟨fun i => if h : i < len then some (Classical.choose (hel i h)) else none, fun i hil => ?_⟩
      exact ⟨_, by simp [hil], Classical.choose_spec (hel i hil)⟩
    refine ⟨(List.range len).filterMap g, ?_⟩
    have hlen : ∀ n, n ≤ len → ((List.range n).filterMap g).length = n := fun n => by
      induction n with
      | zero => simp
      | succ n ih =>
        intro hn
        obtain ⟨x, hx, _⟩ := hg n (by omega)
        rw [List.range_succ, List.filterMap_append, List.length_append, ih (by omega)]
        simp [hx]
    have hgetn : ∀ n, n ≤ len → ∀ i, i < n → ∀ x, g i = some x → ((List.range n).filterMap g)[i]? = some x := fun n => by
      induction n with
      | zero => intro _ i h; omega
      | succ n ih =>
        intro hn i hi x hx
        rw [List.range_succ, List.filterMap_append]
        by_cases e : i < n
        · rw [List.getElem?_append_left (by rw [hlen n (by omega)]; exact e)]
          exact ih (by omega) i e x hx
        · obtain rfl : i = n := by omega
          rw [List.getElem?_append_right (by rw [hlen i (by omega)]; exact Nat.le_refl _), hlen i (by omega), Nat.sub_self]
          simp [hx]
    have hget := hgetn len (Nat.le_refl _)
    have hL := hlen len (Nat.le_refl _)
    rw [hL]
    refine ⟨by rw [flat_len f k hk, hL], some a, _, rfl, hl, hm, fun hpos => ?_⟩
    have hfirst : ∃ u, W.cell? a = some u := by
      obtain ⟨x, hx, hcx⟩ := hg 0 hpos
      have h0 : (f x)[0]? = some ((f x)[0]'(by rw [hk]; exact hk0)) := List.getElem?_eq_getElem _
      have := hcx 0 _ h0
      simp [Addr.add] at this
      exact ⟨_, this⟩
    obtain ⟨u0, hu0⟩ := hfirst
    have hsp := World.cell?_spot hu0
    obtain ⟨b, off, spot⟩ := a
    simp only at hsp
    subst hsp
    refine ⟨b, off, rfl, World.block_lt_of_cell? W _ hu0, fun j u hj => ?_⟩
    have hjl : j < len * k := by
      have := (List.getElem?_eq_some_iff.1 hj).1
      rw [flat_len f k hk, hL] at this
      exact this
    have hq : j / k * k + j % k = j := by rw [Nat.mul_comm]; exact Nat.div_add_mod j k
    have hr := Nat.mod_lt j hk0
    have hqi : j / k < len := Nat.div_lt_of_lt_mul (by rw [Nat.mul_comm]; exact hjl)
    obtain ⟨x, hx, hcx⟩ := hg (j / k) hqi
    rw [← hq, flat_get f k hk _ _ _ hr, hget _ hqi x hx] at hj
    have := hcx _ _ hj
    rw [hq, Go.WideShapes.add_plain] at this
    exact this
end

/-- An op on a server: what is done, of which chunk, which version, which bit, the sum, whether it is the bytes' own, the slice, the bytes. -/
structure Op11 where
  kind : Int
  chunk : Int
  version : Int
  bit : Int
  sum : Int
  right : Bool
  dv : Value
  d : List Nat
def o1C (o : Op11) : List Value := [.int .i64 o.kind, .int .i64 o.chunk, .int .i64 o.version, .int .i64 o.bit, .int .u32 o.sum, .bool o.right, o.dv]
theorem o1C_len (o : Op11) : (o1C o).length = 7 := rfl
/-- What is known of an op that came in. -/
def okO (W : World) (o : Op11) : Prop := (Lit.int .i64 o.chunk).wf = true ∧ okB o.d ∧ Rd W 1 o.dv o.d.length (o.d.flatMap byC)

section
variable {H : Type} {enc : TypeId × Value → H} {W : World} {r : Reach} {b0 : Nat} {v : Value} {d : DataW H} {p : List MemPlace}
set_option maxRecDepth 1000000 in
theorem cells_by : Try.prog.cellsOf 5 = 1 := by kernel_rfl
set_option maxRecDepth 1000000 in
theorem cells_bys : Try.prog.cellsOf 34 = 1 := by kernel_rfl
set_option maxRecDepth 1000000 in
theorem rows_bytes (hv : ∃ a len cap, v = .slice a len cap) (h : DataW.Trod enc Try.prog W 0 (fun _ => true) true 34 v d p) : ∃ l : List Nat, okB l ∧ Rd W 1 v l.length (l.flatMap byC) := by
  have : ∃ l : List {b : Nat // b < 256}, Rd W 1 v l.length (l.flatMap (fun x => byC x.1)) := by
    refine open_rowsN (α := {b : Nat // b < 256}) (fun x => byC x.1) 1 (by omega) (fun x => byC_len x.1) Try.underlying34 cells_by (fun n cs y hy hl => ?_) hv h
    obtain ⟨z, hz, _, hw⟩ := DataW.trod_int Try.underlying5 hy
    have hb : 0 ≤ z ∧ z ≤ 255 := by
      simp [Lit.wf, IntKind.min, IntKind.max, IntKind.signed, IntKind.bits] at hw
      omega
    refine ⟨⟨z.toNat, by omega⟩, ?_⟩
    rw [hz]
    simp only [byC]
    congr 2
    omega
  obtain ⟨l, hl⟩ := this
  refine ⟨l.map (·.1), fun x hx => ?_, ?_⟩
  · obtain ⟨y, _, rfl⟩ := List.mem_map.1 hx
    exact y.2
  · rw [List.length_map, List.flatMap_map]
    exact hl
set_option maxRecDepth 1000000 in
theorem open_bytes (hv : Value.okWide Try.prog W r b0 34 v) (hlt : ∀ x ∈ p, x.block < W.heap.size) (h : DataW.Trod enc Try.prog W 0 (fun _ => true) true 34 v d p) : ∃ l : List Nat, okB l ∧ Rd W 1 v l.length (l.flatMap byC) :=
  rows_bytes (okWide_slice Try.underlying34 hv) h
set_option maxRecDepth 1000000 in
theorem o1_cells {n : Nat} {cs : List Value} {y : DataW H × List MemPlace} (h : DataW.trod enc Try.prog W 0 (fun _ => true) true n 36 cs = some y) : ∃ o : Op11, okO W o ∧ cs = o1C o := by
  obtain ⟨ys, n', _, _, hlen, hyl, hf⟩ := DataW.trod_struct Try.underlying36 h
  rw [show Try.prog.cellsOf 36 = 7 by kernel_rfl] at hlen
  obtain ⟨c0, c1, c2, c3, c4, c5, c6, rfl⟩ := list7 hlen
  obtain ⟨y0, y1, y2, y3, y4, y5, y6, rfl⟩ := list7 hyl
  have h0 := hf 0 _ rfl
  have h1 := hf 1 _ rfl
  have h2 := hf 2 _ rfl
  have h3 := hf 3 _ rfl
  have h4 := hf 4 _ rfl
  have h5 := hf 5 _ rfl
  have h6 := hf 6 _ rfl
  simp [cells_int, cells_u32, cells_boo, cells_bys] at h0 h1 h2 h3 h4 h5 h6
  obtain ⟨z0, e0, _, _⟩ := DataW.trod_int Try.underlying3 h0
  obtain ⟨z1, e1, _, w1⟩ := DataW.trod_int Try.underlying3 h1
  obtain ⟨z2, e2, _, _⟩ := DataW.trod_int Try.underlying3 h2
  obtain ⟨z3, e3, _, _⟩ := DataW.trod_int Try.underlying3 h3
  obtain ⟨z4, e4, _, _⟩ := DataW.trod_int Try.underlying33 h4
  obtain ⟨b5, e5, _⟩ := DataW.trod_bool Try.underlying4 h5
  simp only [List.cons.injEq, and_true] at e0 e1 e2 e3 e4 e5
  subst e0 e1 e2 e3 e4 e5
  obtain ⟨A, len, cap, e6⟩ := slice_form Try.underlying34 h6
  simp at e6
  subst e6
  obtain ⟨l, hl, hR⟩ := rows_bytes (v := .slice A len cap) ⟨_, _, _, rfl⟩ (⟨n', by simpa [Value.cells] using h6⟩ : DataW.Trod enc Try.prog W 0 (fun _ => true) true 34 (.slice A len cap) y6.1 y6.2)
  exact ⟨⟨z0, z1, z2, z3, z4, b5, _, l⟩, ⟨w1, hl, hR⟩, rfl⟩
set_option maxRecDepth 1000000 in
theorem open_ops11 (hv : Value.okWide Try.prog W r b0 22 v) (hlt : ∀ x ∈ p, x.block < W.heap.size) (h : DataW.Trod enc Try.prog W 0 (fun _ => true) true 22 v d p) : ∃ l : List Op11, (∀ o ∈ l, okO W o) ∧ Rd W 7 v l.length (l.flatMap o1C) := by
  have : ∃ l : List {o : Op11 // okO W o}, Rd W 7 v l.length (l.flatMap (fun x => o1C x.1)) := by
    refine open_rowsN (α := {o : Op11 // okO W o}) (fun x => o1C x.1) 7 (by omega) (fun x => o1C_len x.1) Try.underlying22 (by kernel_rfl) (fun n cs y hy hl => ?_) (okWide_slice Try.underlying22 hv) h
    obtain ⟨o, ho, hc⟩ := o1_cells hy
    exact ⟨⟨o, ho⟩, hc⟩
  obtain ⟨l, hl⟩ := this
  refine ⟨l.map (·.1), fun x hx => ?_, ?_⟩
  · obtain ⟨y, _, rfl⟩ := List.mem_map.1 hx
    exact y.2
  · rw [List.length_map, List.flatMap_map]
    exact hl
end

end Go.Proofs.Ytncgpojjibojlaa

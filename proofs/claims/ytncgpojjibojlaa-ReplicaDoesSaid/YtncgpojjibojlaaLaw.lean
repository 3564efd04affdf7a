/- The frame of a law's row: whatever its arguments are, if the call returns true and turns nothing that was there, the row's claim holds; and the opening of arguments. -/
import Derived.Test.YtncgpojjibojlaaRows
import Derived.Test.YtncgpojjibojlaaFlat
import Derived.ProofKit
import Derived.SizedLaws
import Derived.Deep.Slices
import Derived.Deep.Fields
namespace Go.Proofs.Ytncgpojjibojlaa
open Go Go.RowKit Go.ChangeShapes Go.WideShapes Go.ChangeAt Go.Deep

section
variable {H : Type} {enc : TypeId × Value → H} {P : Program}

theorem trodAll_below (hl : laidOutB P = true) {W W' : World} (hb : Below W.heap.size W W') : ∀ (ts : List TypeId) (vs : List Value) (ds : List (DataW H)) (p : List MemPlace),
    (∀ t ∈ ts, P.readableRec t = true ∧ t < P.types.size) → (∀ x ∈ p, x.block < W.heap.size) → DataW.TrodAll enc P W 0 (fun _ => true) true ts vs ds p →
    DataW.TrodAll enc P W' 0 (fun b => decide (b < W.heap.size)) true ts vs ds p
  | [], [], [], _, _, _, h => h
  | t :: ts, v :: vs, d :: ds, p, ht, hp, h => by
    obtain ⟨p1, q1, h1, h2, rfl⟩ := h
    exact ⟨p1, q1, Below.trod hl (ht t (by simp)).1 (ht t (by simp)).2 h1 hb (fun x hx => hp x (by simp [hx])),
      trodAll_below hl hb ts vs ds q1 (fun t' h' => ht t' (by simp [h'])) (fun x hx => hp x (by simp [hx])) h2, rfl⟩
  | [], [], _ :: _, _, _, _, h => h.elim
  | [], _ :: _, _, _, _, _, h => h.elim
  | _ :: _, [], _, _, _, _, h => h.elim
  | _ :: _, _ :: _, [], _, _, _, h => h.elim

theorem law_post {f : Func} {s : ChangeSpec} (hl : laidOutB P = true) (hr : ∀ t ∈ f.params.toList, P.readableRec t = true ∧ t < P.types.size) (hvars : s.vars = []) {tb : TypeId} (htb : P.underlying tb = some .bool) (hres : f.resultTypes = #[tb])
    {W W' : World} {args : Array Value} {ds gs : List (DataW H)} {before : List MemPlace} (hW : DataW.Whole enc P f.params.toList s.vars false W args.toList ds gs before)
    (hspec : (s.fn H (ds ++ gs)).results = [.lit (.bool true)] ∧ (s.fn H (ds ++ gs)).args = ds ∧ (s.fn H (ds ++ gs)).vars = [])
    (hb : Below W.heap.size W W') : s.post enc P f false true false false W args (.bool true) W' := by
  have hlt : ∀ p ∈ before, p.block < W.heap.size := fun p hp => hW.lt p hp
  obtain ⟨h1, h2, h3⟩ := hspec
  have hW' := hW
  obtain ⟨p, q, hA, hV, rfl, _, _⟩ := hW
  refine ⟨ds, gs, p ++ q, [], p, [], hW', ?_, ?_, ?_, hb.frame _, fun h => by cases h⟩
  · rw [h1, hres]
    exact ⟨[], [], shut_bool htb true, rfl, rfl⟩
  · rw [h2]
    exact trodAll_below hl hb _ _ _ _ hr (fun x hx => hlt x (by simp [hx])) hA
  · rw [h3, hvars]
    rfl

/-- A struct of ints, read off its cells. -/
theorem struct_ints {W : World} {e : TypeId} {fs : Array Field} (he : P.underlying e = some (.struct fs)) (hone : oneCellFields P fs = true) (hC : P.cellsOf e = fs.size) (hint : ∀ (j : Nat) (f : Field), fs[j]? = some f → P.underlying f.type = some (.int .i64))
    {n : Nat} {cs : List Value} {y : DataW H × List MemPlace} (h : DataW.trod enc P W 0 (fun _ => true) true n e cs = some y) : ∃ zs : List Int, zs.length = fs.size ∧ cs = zs.map (Value.int .i64) ∧ ∀ z ∈ zs, (Lit.int .i64 z).wf = true := by
  obtain ⟨ys, n', hn', hy, hlen, hyl, hf⟩ := DataW.trod_struct he h
  rw [hC] at hlen
  have hel : ∀ j (hj : j < cs.length), ∃ z : Int, cs[j] = .int .i64 z ∧ (Lit.int .i64 z).wf = true := fun j hj => by
    have hjf : j < fs.size := by omega
    have hfj : fs[j]? = some fs[j] := Array.getElem?_eq_getElem hjf
    obtain ⟨ho, hk⟩ := hone_of hone j _ hfj
    have h1 := hf j _ hfj
    rw [ho, hk] at h1
    have hone' : (cs.drop j).take 1 = [cs[j]] := by rw [List.drop_eq_getElem_cons hj]; rfl
    rw [hone', List.getElem?_eq_getElem (show j < ys.length by omega)] at h1
    obtain ⟨z, hz, _, hw⟩ := DataW.trod_int (hint j _ hfj) h1
    exact ⟨z, by simpa using hz, hw⟩
  refine ⟨cs.map (fun v => intOf v), by simp [hlen], ?_, ?_⟩
  · apply List.ext_getElem
    · simp
    · intro j h1 h2
      obtain ⟨z, hz, _⟩ := hel j h1
      simp [hz, intOf]
  · intro z hz
    obtain ⟨v, hv, rfl⟩ := List.mem_map.1 hz
    obtain ⟨j, hj, rfl⟩ := List.mem_iff_getElem.1 hv
    obtain ⟨z, hz, hw⟩ := hel j hj
    rw [hz]
    exact hw

/-- A slice that came in, whose elements read as things of some kind. -/
theorem open_rows {W : World} {t e : TypeId} {α : Type} (f : α → List Value) (k : Nat) (hk0 : 0 < k) (hk : ∀ x, (f x).length = k) (ht : P.underlying t = some (.slice e)) (hc : P.cellsOf e = k)
    (he : ∀ (n : Nat) (cs : List Value) (y : DataW H × List MemPlace), DataW.trod enc P W 0 (fun _ => true) true n e cs = some y → cs.length = k → ∃ x, cs = f x)
    {v : Value} {d : DataW H} {p : List MemPlace} (hv : ∃ a len cap, v = .slice a len cap) (hlt : ∀ x ∈ p, x.block < W.heap.size) (h : DataW.Trod enc P W 0 (fun _ => true) true t v d p) :
    ∃ l : List α, Rd W k v l.length (l.flatMap f) := by
  obtain ⟨a0, len0, cap0, rfl⟩ := hv
  obtain ⟨fuel, hf⟩ := h
  rcases open_slice ht hf with ⟨hcs, _⟩ | ⟨a, len, cap, m, n, D, Pl, hcs, hb, hl, hm, hmm, hx, hi⟩
  · simp only [Value.cells] at hcs
    have hcs' : Value.slice a0 len0 cap0 = .slice none 0 0 := by simpa using hcs
    rw [hcs']
    exact ⟨[], by simpa using Rd.nil_ W k⟩
  · simp only [Value.cells] at hcs
    have hcs' : Value.slice a0 len0 cap0 = .slice (some a) len cap := by simpa using hcs
    rw [hcs']
    simp only [if_true] at hmm
    subst hmm
    rw [hc] at hi hx
    have hel : ∀ i, i < len → ∃ x : α, ∀ j u, (f x)[j]? = some u → W.cell? (a.add (i * k + j)) = some u := fun i hil => by
      obtain ⟨cs', hcell, htr⟩ := hi i (by omega)
      obtain ⟨_, hcl, hat⟩ := World.cells?_some hcell
      obtain ⟨x, rfl⟩ := he _ _ _ htr hcl
      refine ⟨x, fun j u hj => ?_⟩
      have hjk : j < k := by
        have := (List.getElem?_eq_some_iff.1 hj).1
        omega
      rw [← Go.Deep.add_add, hat j hjk, hj]
    obtain ⟨g, hg⟩ : ∃ g : Nat → Option α, ∀ i, i < len → ∃ x, g i = some x ∧ ∀ j u, (f x)[j]? = some u → W.cell? (a.add (i * k + j)) = some u := by
      refine ⟨fun i => if h : i < len then some (Classical.choose (hel i h)) else none, fun i hil => ?_⟩
      exact ⟨_, by simp [hil], Classical.choose_spec (hel i hil)⟩
    refine ⟨(List.range len).filterMap g, ?_⟩
    have hlen : ∀ n, n ≤ len → ((List.range n).filterMap g).length = n := fun n => by
      induction n with
      | zero => simp
      | succ n ih =>
        intro hn
        obtain ⟨x, hx, _⟩ := hg n (by omega)
        rw [List.range_succ, List.filterMap_append, List.length_append, ih (by omega)]
        simp [hx]
    have hgetn : ∀ n, n ≤ len → ∀ i, i < n → ∀ x, g i = some x → ((List.range n).filterMap g)[i]? = some x := fun n => by
      induction n with
      | zero => intro _ i h; omega
      | succ n ih =>
        intro hn i hi x hx
        rw [List.range_succ, List.filterMap_append]
        by_cases e : i < n
        · rw [List.getElem?_append_left (by rw [hlen n (by omega)]; exact e)]
          exact ih (by omega) i e x hx
        · obtain rfl : i = n := by omega
          rw [List.getElem?_append_right (by rw [hlen i (by omega)]; exact Nat.le_refl _), hlen i (by omega), Nat.sub_self]
          simp [hx]
    have hget := hgetn len (Nat.le_refl _)
    have hL := hlen len (Nat.le_refl _)
    rw [hL]
    refine ⟨by rw [flat_len f k hk, hL], some a, _, rfl, hl, hm, fun hpos => ?_⟩
    have hfirst : ∃ u, W.cell? a = some u := by
      obtain ⟨x, hx, hcx⟩ := hg 0 hpos
      have h0 : (f x)[0]? = some ((f x)[0]'(by rw [hk]; exact hk0)) := List.getElem?_eq_getElem _
      have := hcx 0 _ h0
      simp [Addr.add] at this
      exact ⟨_, this⟩
    obtain ⟨u0, hu0⟩ := hfirst
    have hsp := World.cell?_spot hu0
    obtain ⟨b, off, spot⟩ := a
    simp only at hsp
    subst hsp
    refine ⟨b, off, rfl, World.block_lt_of_cell? W _ hu0, fun j u hj => ?_⟩
    have hjl : j < len * k := by
      have := (List.getElem?_eq_some_iff.1 hj).1
      rw [flat_len f k hk, hL] at this
      exact this
    have hq : j / k * k + j % k = j := by rw [Nat.mul_comm]; exact Nat.div_add_mod j k
    have hr := Nat.mod_lt j hk0
    have hqi : j / k < len := Nat.div_lt_of_lt_mul (by rw [Nat.mul_comm]; exact hjl)
    obtain ⟨x, hx, hcx⟩ := hg (j / k) hqi
    rw [← hq, flat_get f k hk _ _ _ hr, hget _ hqi x hx] at hj
    have := hcx _ _ hj
    rw [hq, Go.WideShapes.add_plain] at this
    exact this
end

end Go.Proofs.Ytncgpojjibojlaa

/- A box: a block of a struct's cells that the call itself has laid; a store of a whole struct into it. -/
import Derived.Test.YtncgpojjibojlaaFlat
namespace Go.Proofs.Ytncgpojjibojlaa
open Go Go.RowKit

theorem below2 (w : World) (o o' : Obj) : Below w.heap.size w ((w.alloc o).alloc o') := ((Below.refl _ _).alloc (Nat.le_refl _) o).alloc (by simp) o'
theorem below3 (w : World) (o o' o'' : Obj) : Below w.heap.size w (((w.alloc o).alloc o').alloc o'') := (below2 w o o').alloc (by simp; omega) o''
/-- Block B holds these cells, of type t, and may be written. -/
def Bx (w : World) (B : Nat) (t : TypeId) (cs : List Value) : Prop := w.heap[B]? = some (.cells cs.toArray t (0, 0))

section
variable {w w' : World} {B : Nat} {t : TypeId} {cs : List Value} {a b c d e : Value}
theorem Bx.lt (h : Bx w B t cs) : B < w.heap.size := (Array.getElem?_eq_some_iff.1 h).1
theorem Bx.new (w : World) (t : TypeId) (cs : List Value) : Bx (w.alloc (.cells cs.toArray t)) w.heap.size t cs := heap_alloc_new w _
theorem Bx.cell (h : Bx w B t cs) (j : Nat) : w.cell? ⟨B, j, none⟩ = cs[j]? := by rw [cell_of_row w B j _ _ _ h]; simp
theorem Bx.frozen (h : Bx w B t cs) (j : Nat) : w.frozen? ⟨B, j, none⟩ = false := by simp [World.frozen?, show w.heap[B]? = _ from h]
theorem Bx.below {b0 : Nat} (h : Bx w B t cs) (hb : Below b0 w w') (hB : B < b0) : Bx w' B t cs := (hb.block B hB).trans h
theorem Bx.below' (h : Bx w B t cs) (hb : Below w.heap.size w w') : Bx w' B t cs := h.below hb h.lt
theorem Bx.alloc (h : Bx w B t cs) (o : Obj) : Bx (w.alloc o) B t cs := (Below.heap_alloc _ _ _ h.lt).trans h
theorem Bx.drewN (h : Bx w B t cs) (n : Nat) : Bx (w.drewN n) B t cs := h
theorem Bx.fr {S : Nat → Prop} (h : Bx w B t cs) (hf : Fr S w w') (hn : ¬ S B) : Bx w' B t cs := (hf.block B h.lt hn).trans h
theorem Bx.two (h : Bx w B t [a, b]) : w.cell? ⟨B, 0, none⟩ = some a ∧ w.cell? ⟨B, 1, none⟩ = some b := ⟨h.cell 0, h.cell 1⟩
theorem Bx.three (h : Bx w B t [a, b, c]) : w.cell? ⟨B, 0, none⟩ = some a ∧ w.cell? ⟨B, 1, none⟩ = some b ∧ w.cell? ⟨B, 2, none⟩ = some c := ⟨h.cell 0, h.cell 1, h.cell 2⟩
theorem Bx.four (h : Bx w B t [a, b, c, d]) : w.cell? ⟨B, 0, none⟩ = some a ∧ w.cell? ⟨B, 1, none⟩ = some b ∧ w.cell? ⟨B, 2, none⟩ = some c ∧ w.cell? ⟨B, 3, none⟩ = some d := ⟨h.cell 0, h.cell 1, h.cell 2, h.cell 3⟩
theorem Bx.five (h : Bx w B t [a, b, c, d, e]) : w.cell? ⟨B, 0, none⟩ = some a ∧ w.cell? ⟨B, 1, none⟩ = some b ∧ w.cell? ⟨B, 2, none⟩ = some c ∧ w.cell? ⟨B, 3, none⟩ = some d ∧ w.cell? ⟨B, 4, none⟩ = some e := ⟨h.cell 0, h.cell 1, h.cell 2, h.cell 3, h.cell 4⟩
end

theorem heap_setCells (B : Nat) (t : TypeId) : ∀ (cs : List Value) (w : World) (o : Nat) (old : List Value), Bx w B t old → Bx (w.setCells B o cs) B t (setL old o cs)
  | [], _, _, _, h => h
  | c :: cs, w, o, old, h => by
    refine heap_setCells B t cs _ (o + 1) (old.set o c) ?_
    have h' : w.heap[B]? = some (.cells old.toArray t (0, 0)) := h
    show (w.setCell ⟨B, o, none⟩ c).heap[B]? = _
    simp [World.setCell, Array.getElem?_modify, h']
theorem setL_all (cs old : List Value) (h : old.length = cs.length) : setL old 0 cs = cs := by
  apply List.ext_getElem?
  intro p
  rw [setL_get]
  by_cases hp : p < cs.length
  · rw [if_pos (by omega), Nat.sub_zero]
  · rw [if_neg (by omega), List.getElem?_eq_none (by omega), List.getElem?_eq_none (by omega)]

/-- A store of a whole struct into a box. -/
theorem wpList_store_box {P : Program} {w : World} {ops : Array Oper} {rest : List Oper} {op : Oper} {a : Act} {Q : Exit → Act → World → Prop} (hgd : op.guard = none) (ty : TypeId) (x y : Operand) (ho : op.op = .store ty x y)
    (B : Nat) (t : TypeId) (old cells : List Value) (hx : a.eval x = .pointer (some ⟨B, 0, none⟩)) (hb : Bx w B t old) (hy : a.eval y = .agg cells.toArray) (hs : old.length = cells.length)
    (hi : (P.info? ty).map (·.size) = some cells.length) (h1 : cells.toArray.all (·.oneCell') = true)
    (h : ∀ w', Bx w' B t cells → Fr (fun k => k = B) w w' → wpList P ops Q rest (a.put op.dst undef) w') : wpList P ops Q (op :: rest) a w := by
  refine wpList_store_mid hgd ty x y ho B 0 cells.toArray hx hy (fun j hj => ?_) (by simpa using hi) h1 (h _ ?_ (Fr.setCells_ _ _ _))
  · rw [Nat.zero_add]
    refine ⟨?_, hb.frozen j⟩
    rw [hb.cell, List.getElem?_eq_getElem (by simp at hj; omega)]
    rfl
  · have := heap_setCells B t cells w 0 old hb
    rw [setL_all cells old hs] at this
    simpa using this

end Go.Proofs.Ytncgpojjibojlaa

/- slices.Index, Contains, Clone at []int, sutureref16.Has: their contracts. -/
import Derived.Test.YtncgpojjibojlaaClrq
import Derived.Test.YtncgpojjibojlaaGaq
import Derived.Test.YtncgpojjibojlaaCmp1q
import Derived.Lib.SliceRun
namespace Go.Proofs.Ytncgpojjibojlaa
open Go Go.RowKit

theorem info_in : (Try.prog.info? 3).map (fun i => (i.zero, i.size, i.bytes)) = some (some (.int .i64 0), 1, 8) := by kernel_rfl

def FreshI (xs : List Int) (w : World) (en : Ending) (w' : World) : Prop := ∃ v', en = .returned v' ∧ Own w' w.heap.size 3 1 v' xs.length (xs.flatMap inC) ∧ Below w.heap.size w w'


def hasB (l : List Int) (z : Int) : Bool := l.contains z
theorem hasB_iff {l : List Int} {z : Int} : hasB l z = true ↔ z ∈ l := List.contains_iff_mem
theorem contains_at {l : List Int} {z : Int} {k : Nat} (hk : k < l.length) (h : at_ l k = z) : hasB l z = true := by
  rw [hasB_iff, ← h]
  exact at_mem hk
theorem contains_none {l : List Int} {z : Int} (h : ∀ j, j < l.length → at_ l j ≠ z) : hasB l z = false := by
  cases e : hasB l z with
  | false => rfl
  | true =>
    obtain ⟨j, hj, he⟩ := mem_at (hasB_iff.1 e)
    exact absurd he (h j hj)




end Go.Proofs.Ytncgpojjibojlaa

/- append at []int: the two shapes in one law. -/
namespace Go.Proofs.Ytncgpojjibojlaa
open Go Go.RowKit

theorem infoI : (Try.prog.info? 3).map (fun i => (i.zero, i.size, i.bytes)) = some (some (.int .i64 0), 1, 8) := by kernel_rfl

theorem wpList_app_in {w : World} {ops : Array Oper} {rest : List Oper} {o : Oper} {a : Act} {Q : Exit → Act → World → Prop} (hgd : o.guard = none) (s x : Operand)
    (ho : o.op = .call { callee := .builtin .append, args := #[s, x], argTypes := #[29, 29] }) (base : Nat) (v : Value) (l : List Int) (hs : a.eval s = v) (hown : Own w base 3 1 v l.length (l.flatMap inC))
    (src : Value) (m : List Int) (hx : a.eval x = src) (hsrc : Rd w 1 src m.length (m.flatMap inC)) (hlen : l.length + m.length ≤ 1000000) (hbase : base ≤ w.heap.size)
    (h : ∀ v' w', Own w' base 3 1 v' (l ++ m).length ((l ++ m).flatMap inC) → Fr (fun k => blk v = some k) w w' → Below base w w' → wpList Try.prog ops Q rest (a.put o.dst v') w') : wpList Try.prog ops Q (o :: rest) a w := by
  obtain ⟨ii, hii, hz0, hz1, hz2⟩ := info_parts infoI
  refine wpList_append_seg hgd s x 29 ho base 3 ii _ 1 8 (by kernel_rfl) hii hz0 hz1 hz2 rfl (by omega) v l.length (l.flatMap inC) hs hown src m.length (m.flatMap inC) hx hsrc (inC_one m) (by unfold maxLen; omega) (by omega) hbase ?_
  intro v' w' hown' hfr _ _
  refine h v' w' ?_ hfr (hfr.below hbase (fun k hk => (hown.blk_lt hk).1))
  rw [List.length_append, List.flatMap_append]
  exact hown'

end Go.Proofs.Ytncgpojjibojlaa

/- append of replicas. -/
import Derived.Test.YtncgpojjibojlaaInsertRe
namespace Go.Proofs.Ytncgpojjibojlaa
open Go Go.RowKit

theorem wpList_app_re {w : World} {ops : Array Oper} {rest : List Oper} {o : Oper} {a : Act} {Q : Exit → Act → World → Prop} (hgd : o.guard = none) (s x : Operand)
    (ho : o.op = .call { callee := .builtin .append, args := #[s, x], argTypes := #[41, 41] }) (base : Nat) (v : Value) (l : List Re) (hs : a.eval s = v) (hown : Own w base 52 5 v l.length (l.flatMap reC))
    (src : Value) (m : List Re) (hx : a.eval x = src) (hsrc : Rd w 5 src m.length (m.flatMap reC)) (hlen : l.length + m.length ≤ 100000) (hbase : base ≤ w.heap.size)
    (h : ∀ v' w', Own w' base 52 5 v' (l ++ m).length ((l ++ m).flatMap reC) → Fr (fun k => blk v = some k) w w' → (blk v' = blk v ∨ blk v' = some w.heap.size) → Below base w w' → wpList Try.prog ops Q rest (a.put o.dst v') w') : wpList Try.prog ops Q (o :: rest) a w := by
  obtain ⟨ii, hii, hz0, hz1, hz2⟩ := info_parts info_re
  refine wpList_append_seg hgd s x 41 ho base 52 ii _ 5 24 (by kernel_rfl) hii hz0 hz1 hz2 rfl (by omega) v l.length (l.flatMap reC) hs hown src m.length (m.flatMap reC) hx hsrc (reC_one m) (by unfold maxLen; omega) (by omega) hbase ?_
  intro v' w' hown' hfr hbk _
  refine h v' w' ?_ hfr hbk (hfr.below hbase (fun k hk => (hown.blk_lt hk).1))
  rw [List.length_append, List.flatMap_append]
  exact hown'
/-- A row of one replica in a block of its own. -/
theorem rd_re1 {w : World} {b : Nat} {t : TypeId} (x : Re) (hb : Bx w b t (reC x)) : Rd w 5 (.slice (some ⟨b, 0, none⟩) 1 1) [x].length ([x].flatMap reC) :=
  ⟨by simp [reC_len], _, _, rfl, Nat.le_refl _, by unfold maxLen; decide, fun _ => ⟨b, 0, rfl, hb.lt, fun j u hj => by
    rw [Nat.zero_add, hb.cell]
    simpa using hj⟩⟩

end Go.Proofs.Ytncgpojjibojlaa

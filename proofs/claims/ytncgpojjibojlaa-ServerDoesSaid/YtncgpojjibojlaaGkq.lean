/- append of replicas. -/
import Derived.Test.YtncgpojjibojlaaInsertReq
import Derived.Test.YtncgpojjibojlaaGiq
namespace Go.Proofs.Ytncgpojjibojlaa
open Go Go.RowKit

theorem wpList_app_re {w : World} {ops : Array Oper} {rest : List Oper} {o : Oper} {a : Act} {Q : Exit → Act → World → Prop} (hgd : o.guard = none) (s x : Operand)
    (ho : o.op = .call { callee := .builtin .append, args := #[s, x], argTypes := #[41, 41] }) (base : Nat) (v : Value) (l : List Re) (hs : a.eval s = v) (hown : Own w base 52 5 v l.length (l.flatMap reC))
    (src : Value) (m : List Re) (hx : a.eval x = src) (hsrc : Rd w 5 src m.length (m.flatMap reC)) (hlen : l.length + m.length ≤ 100000) (hbase : base ≤ w.heap.size)
    (h : ∀ v' w', Own w' base 52 5 v' (l ++ m).length ((l ++ m).flatMap reC) → Fr (fun k => blk v = some k) w w' → (blk v' = blk v ∨ blk v' = some w.heap.size) → Below base w w' → wpList Try.prog ops Q rest (a.put o.dst v') w') : wpList Try.prog ops Q (o :: rest) a w := by
  obtain ⟨ii, hii, hz0, hz1, hz2⟩ := info_parts info_re
  refine wpList_append_seg hgd s x 41 ho base 52 ii _ 5 24 (by kernel_rfl) hii hz0 hz1 hz2 rfl (by omega) v l.length (l.flatMap reC) hs hown src m.length (m.flatMap reC) hx hsrc (reC_one m) (by unfold maxLen; omega) (by omega) hbase ?_
  intro v' w' hown' hfr hbk _
  refine h v' w' ?_ hfr hbk (hfr.below hbase (fun k hk => (hown.blk_lt hk).1))
  rw [List.length_append, List.flatMap_append]
  exact hown'
/-- A row of one replica in a block of its own. -/
theorem rd_re1 {w : World} {b : Nat} {t : TypeId} (x : Re) (hb : Bx w b t (reC x)) : Rd w 5 (.slice (some ⟨b, 0, none⟩) 1 1) [x].length ([x].flatMap reC) :=
  ⟨by simp [reC_len], _, _, rfl, Nat.le_refl _, by unfold maxLen; decide, fun _ => ⟨b, 0, rfl, hb.lt, fun j u hj => by
    rw [Nat.zero_add, hb.cell]
    simpa using hj⟩⟩

end Go.Proofs.Ytncgpojjibojlaa

/- append at []int, with where the new slice lies; loads that stay while ints are appended. -/
namespace Go.Proofs.Ytncgpojjibojlaa
open Go Go.RowKit

theorem wpList_app_in2 {w : World} {ops : Array Oper} {rest : List Oper} {o : Oper} {a : Act} {Q : Exit → Act → World → Prop} (hgd : o.guard = none) (s x : Operand)
    (ho : o.op = .call { callee := .builtin .append, args := #[s, x], argTypes := #[29, 29] }) (base : Nat) (v : Value) (l : List Int) (hs : a.eval s = v) (hown : Own w base 3 1 v l.length (l.flatMap inC))
    (src : Value) (m : List Int) (hx : a.eval x = src) (hsrc : Rd w 1 src m.length (m.flatMap inC)) (hlen : l.length + m.length ≤ 1000000) (hbase : base ≤ w.heap.size)
    (h : ∀ v' w', Own w' base 3 1 v' (l ++ m).length ((l ++ m).flatMap inC) → Fr (fun k => blk v = some k) w w' → (blk v' = blk v ∨ blk v' = some w.heap.size) → Below base w w' → wpList Try.prog ops Q rest (a.put o.dst v') w') : wpList Try.prog ops Q (o :: rest) a w := by
  obtain ⟨ii, hii, hz0, hz1, hz2⟩ := info_parts infoI
  refine wpList_append_seg hgd s x 29 ho base 3 ii _ 1 8 (by kernel_rfl) hii hz0 hz1 hz2 rfl (by omega) v l.length (l.flatMap inC) hs hown src m.length (m.flatMap inC) hx hsrc (inC_one m) (by unfold maxLen; omega) (by omega) hbase ?_
  intro v' w' hown' hfr hbk _
  refine h v' w' ?_ hfr hbk (hfr.below hbase (fun k hk => (hown.blk_lt hk).1))
  rw [List.length_append, List.flatMap_append]
  exact hown'

def Sep (u v : Value) : Prop := ∀ g, blk u = some g → blk v ≠ some g

/-- Two slices of ints of the call's own that lie apart, and loads that lie apart of both; where something is appended to both. -/
theorem sep_two {w w1 w2 w3 : World} {base : Nat} {vt vh vt' vh' : Value} {td td' hs : List Int} (ht : Own w base 3 1 vt td.length (td.flatMap inC)) (hh : Own w base 3 1 vh hs.length (hs.flatMap inC)) (sp : Sep vt vh)
    (h1 : w.heap.size ≤ w1.heap.size) (ht' : Own w2 base 3 1 vt' td'.length (td'.flatMap inC)) (b1 : blk vt' = blk vt ∨ blk vt' = some w1.heap.size) (h2 : w2.heap.size ≤ w3.heap.size) (b2 : blk vh' = blk vh ∨ blk vh' = some w3.heap.size) : Sep vt' vh' := by
  intro g hg hg2
  have l1 := (ht'.blk_lt hg).2
  rcases b1 with b1 | b1 <;> rcases b2 with b2 | b2
  · exact sp g (b1 ▸ hg) (b2 ▸ hg2)
  · rw [b2] at hg2
    cases hg2
    omega
  · rw [b1] at hg
    rw [b2] at hg2
    have := (hh.blk_lt hg2).2
    cases hg
    omega
  · rw [b2] at hg2
    cases hg2
    omega


end Go.Proofs.Ytncgpojjibojlaa

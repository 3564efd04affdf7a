/- append at []int, with where the new slice lies; loads that stay while ints are appended. -/
import Derived.Test.YtflndnbjdhbppaaAppI
namespace Go.Proofs.Ytflndnbjdhbppaa
open Go Go.RowKit

theorem wpList_app_in2 {w : World} {ops : Array Oper} {rest : List Oper} {o : Oper} {a : Act} {Q : Exit → Act → World → Prop} (hgd : o.guard = none) (s x : Operand)
    (ho : o.op = .call { callee := .builtin .append, args := #[s, x], argTypes := #[37, 37] }) (base : Nat) (v : Value) (l : List Int) (hs : a.eval s = v) (hown : Own w base 3 1 v l.length (l.flatMap inC))
    (src : Value) (m : List Int) (hx : a.eval x = src) (hsrc : Rd w 1 src m.length (m.flatMap inC)) (hlen : l.length + m.length ≤ 1000000) (hbase : base ≤ w.heap.size)
    (h : ∀ v' w', Own w' base 3 1 v' (l ++ m).length ((l ++ m).flatMap inC) → Fr (fun k => blk v = some k) w w' → (blk v' = blk v ∨ blk v' = some w.heap.size) → Below base w w' → wpList Try.prog ops Q rest (a.put o.dst v') w') : wpList Try.prog ops Q (o :: rest) a w := by
  obtain ⟨ii, hii, hz0, hz1, hz2⟩ := info_parts infoI
  refine wpList_append_seg hgd s x 37 ho base 3 ii _ 1 8 (by kernel_rfl) hii hz0 hz1 hz2 rfl (by omega) v l.length (l.flatMap inC) hs hown src m.length (m.flatMap inC) hx hsrc (inC_one m) (by unfold maxLen; omega) (by omega) hbase ?_
  intro v' w' hown' hfr hbk _
  refine h v' w' ?_ hfr hbk (hfr.below hbase (fun k hk => (hown.blk_lt hk).1))
  rw [List.length_append, List.flatMap_append]
  exact hown'

def Sep (u v : Value) : Prop := ∀ g, blk u = some g → blk v ≠ some g

/-- Two slices of ints of the call's own that lie apart, and loads that lie apart of both; where something is appended to both. -/
theorem sep_two {w w1 w2 w3 : World} {base : Nat} {vt vh vt' vh' : Value} {td td' hs : List Int} (ht : Own w base 3 1 vt td.length (td.flatMap inC)) (hh : Own w base 3 1 vh hs.length (hs.flatMap inC)) (sp : Sep vt vh)
    (h1 : w.heap.size ≤ w1.heap.size) (ht' : Own w2 base 3 1 vt' td'.length (td'.flatMap inC)) (b1 : blk vt' = blk vt ∨ blk vt' = some w1.heap.size) (h2 : w2.heap.size ≤ w3.heap.size) (b2 : blk vh' = blk vh ∨ blk vh' = some w3.heap.size) : Sep vt' vh' := by
  intro g hg hg2
  have l1 := (ht'.blk_lt hg).2
  rcases b1 with b1 | b1 <;> rcases b2 with b2 | b2
  · exact sp g (b1 ▸ hg) (b2 ▸ hg2)
  · rw [b2] at hg2
    cases hg2
    omega
  · rw [b1] at hg
    rw [b2] at hg2
    have := (hh.blk_lt hg2).2
    cases hg
    omega
  · rw [b2] at hg2
    cases hg2
    omega

def LdS (w : World) (base : Nat) (v : Value) (ld : List Ld) : Prop := Rd w 2 v ld.length (ld.flatMap ldC) ∧ ∀ g off c, v = .slice (some ⟨g, off, none⟩) ld.length c → 0 < ld.length → g < base ∨ ∃ cur, w.heap[g]? = some (.cells cur 87 (0, 0))
theorem LdS.fr {w w' : World} {base : Nat} {v : Value} {ld : List Ld} (h : LdS w base v ld) {S : Nat → Prop} (hf : Fr S w w') (hb : base ≤ w.heap.size) (hS : ∀ g, S g → base ≤ g ∧ ∃ cur, w.heap[g]? = some (.cells cur 3 (0, 0))) : LdS w' base v ld := by
  have key : ∀ g off c, v = .slice (some ⟨g, off, none⟩) ld.length c → 0 < ld.length → w'.heap[g]? = w.heap[g]? := by
    intro g off c e hl
    rcases h.2 g off c e hl with hg | ⟨cur, hg⟩
    · exact hf.block g (by omega) (fun hs => by have := (hS g hs).1; omega)
    · refine hf.block g (Array.getElem?_eq_some_iff.1 hg).1 (fun hs => ?_)
      obtain ⟨_, cur2, h2⟩ := hS g hs
      rw [hg] at h2
      cases h2
  refine ⟨h.1.keep hf.size key, fun g off c e hl => ?_⟩
  rcases h.2 g off c e hl with hg | ⟨cur, hg⟩
  · exact .inl hg
  · exact .inr ⟨cur, (key g off c e hl).trans hg⟩
theorem LdS.of_rd {w w' : World} {v : Value} {ld : List Ld} (h : Rd w 2 v ld.length (ld.flatMap ldC)) (hb : Below w.heap.size w w') : LdS w' w.heap.size v ld := by
  refine ⟨h.below hb (Nat.le_refl _), fun g off c e hl => ?_⟩
  obtain ⟨b, off', cap, hv, _, _, hlt, _⟩ := h.form hl
  rw [e] at hv
  cases hv
  exact .inl hlt
theorem LdS.of_own {w : World} {base b2 : Nat} {v : Value} {ld : List Ld} (h : Own w b2 87 2 v ld.length (ld.flatMap ldC)) : LdS w base v ld := by
  refine ⟨h.rd, fun g off c e hl => ?_⟩
  obtain ⟨g', off', cap, hv, _, _, _, _, hbk⟩ := h.form hl
  rw [e] at hv
  cases hv
  exact .inr (h.blk_elem hbk)

end Go.Proofs.Ytflndnbjdhbppaa

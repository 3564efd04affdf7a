/- clear of a part of a row of the call's own. -/
import Derived.Test.YtncgpojjibojlaaInsq
namespace Go.Proofs.Ytncgpojjibojlaa
open Go Go.RowKit

section
variable {P : Program} {w : World} {base size n : Nat} {e : TypeId} {xs : List Value} {g off cap : Nat}

theorem wpList_clear_own {ops : Array Oper} {rest : List Oper} {o : Oper} {a : Act} {Q : Exit → Act → World → Prop} (hgd : o.guard = none) (s : Operand) (t : TypeId)
    (ho : o.op = .call { callee := .builtin .clear, args := #[s], argTypes := #[t] }) (z : Value) (ht : P.underlying t = some (.slice e)) (hz : ∀ w, (zeroValue e).run P w = .ok z w) (hzs : z.cells.size = size) (h1 : ∀ u ∈ z.cells.toList, u.oneCell' = true)
    (hown : Own w base e size (.slice (some ⟨g, off, none⟩) n cap) n xs) (hc : 0 < cap) (j oj m c : Nat) (hoj : off + j = oj) (hs : a.eval s = .slice (some ⟨g, oj, none⟩) m c) (hm : 0 < m) (hj : j + m * size ≤ n * size)
    (h : ∀ w', Own w' base e size (.slice (some ⟨g, off, none⟩) n cap) n (setL xs j (Builtin.zeroCells z.cells m).toList) → Fr (fun k => k = g) w w' → wpList P ops Q rest (a.put o.dst (.tuple #[])) w') : wpList P ops Q (o :: rest) a w := by
  subst hoj
  have hl : (Builtin.zeroCells z.cells m).toList.length = m * size := by rw [Array.length_toList, size_zeroCells, hzs]
  have hth := hown.there_ j (m * size) hj hc
  have hone : ∀ u ∈ (Builtin.zeroCells z.cells m).toList, u.oneCell' = true := by
    intro u hu
    have : u ∈ Builtin.zeroCells z.cells m := by simpa using hu
    unfold Builtin.zeroCells at this
    obtain ⟨i, hi, rfl⟩ := Array.mem_map.1 this
    have hi2 := Array.mem_range.1 hi
    have hpos : 0 < z.cells.size := by
      rcases Nat.eq_zero_or_pos z.cells.size with h0 | h0
      · rw [h0] at hi2; simp at hi2
      · exact h0
    have hlt : i % z.cells.size < z.cells.size := Nat.mod_lt _ hpos
    rw [getElem!_pos z.cells _ hlt]
    exact h1 _ (by simp)
  have hst := run_storeCells_cells (P := P) g (off + j) (Builtin.zeroCells z.cells m).toList 0 w (by rw [hl]; intro k hk; simpa using (hth k hk).1) (by rw [hl]; intro k hk; simpa using (hth k hk).2) hone
  simp only [Nat.add_zero] at hst
  refine wpList_plain hgd fun K hK => ?_
  have hm' : m ≠ 0 := by omega
  have hr : (Builtin.clear_ #[t] o.type #[.slice (some ⟨g, off + j, none⟩) m c]).run P w = .ok (.tuple #[]) (w.setCells g (off + j) (Builtin.zeroCells z.cells m).toList) := by
    obtain ⟨m', rfl⟩ : ∃ m', m = m' + 1 := ⟨m - 1, by omega⟩
    simp [Builtin.clear_, run_underlying ht, hz, hst]
  unfold Oper.wp execOp
  simp only [ho, resolve, invoke, builtin, Sem.run_bind, Sem.run_pure, Result.andThen_ok, List.map_toArray, List.map_cons, List.map_nil, hs, hr]
  exact hK _ _ (h _ (hown.setCells_ _ w xs j (by rw [hl]; exact hj)) (Fr.setCells_ _ _ _))
end

end Go.Proofs.Ytncgpojjibojlaa

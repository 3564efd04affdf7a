/- Laws for slices.Insert at elements of several cells: copy into a row of the call's own; append of zero values; what is there in the end. -/
import Derived.Test.YtncgpojjibojlaaGjq
import Derived.Lib.AppendZerosOnto
import Derived.Lib.Overlaps
import Derived.Laws.Externs
namespace Go.Proofs.Ytncgpojjibojlaa
open Go Go.RowKit

theorem run_copy_big {P : Program} (w : World) (dT sT ty elem : TypeId) (b o dLen dCap : Nat) (a : Addr) (sLen sCap size : Nat) (cs : List Value)
    (hu : P.underlying dT = some (.slice elem)) (hs : (P.info? elem).map (·.size) = some size) (hn : cs.length = Nat.min sLen dLen * size)
    (hsrc : ∀ j v, cs[j]? = some v → w.cell? (a.add j) = some v) (hc : ∀ j, j < cs.length → (w.cell? ⟨b, o + j, none⟩).isSome = true) (hf : ∀ j, j < cs.length → w.frozen? ⟨b, o + j, none⟩ = false) (h1 : ∀ v ∈ cs, v.oneCell' = true) :
    (Builtin.copy_ #[dT, sT] ty #[.slice (some ⟨b, o, none⟩) dLen dCap, .slice (some a) sLen sCap]).run P w = .ok (goInt (Nat.min sLen dLen)) (w.setCells b o cs) := by
  have hl := run_loadCells_list (P := P) w a cs hsrc
  have hst := run_storeCells_cells (P := P) b o cs 0 w (by simpa using hc) (by simpa using hf) h1
  cases hq : P.info? elem with
  | none => simp [hq] at hs
  | some i =>
    have hi : i.size = size := by simpa [hq] using hs
    simp [Builtin.copy_, run_underlying hu, Builtin.lenOf, Builtin.firstCells, sizeOf, typeInfo, hq, hi, ← hn, hl, hst]

theorem shape_of {w : World} {b : Nat} {c : Array Value} {t : TypeId} {m : Nat × Nat} (h : w.heap[b]? = some (.cells c t m)) : w.shape? b = some (t, c.size) := by simp [World.shape?, h]

section
variable {P : Program} {w : World} {base size n : Nat} {e : TypeId} {xs : List Value} {g off cap : Nat}

theorem run_copy_own (dT sT ty : TypeId) (ht : P.underlying dT = some (.slice e)) (hs : (P.info? e).map (·.size) = some size)
    (hown : Own w base e size (.slice (some ⟨g, off, none⟩) n cap) n xs) (hc : 0 < cap) (j dl dc : Nat) (sb so sl sc : Nat) (cs : List Value) (hlen : cs.length = Nat.min sl dl * size) (hj : j + cs.length ≤ n * size)
    (hsrc : ∀ k u, cs[k]? = some u → w.cell? ⟨sb, so + k, none⟩ = some u) (h1 : ∀ u ∈ cs, u.oneCell' = true) :
    (Builtin.copy_ #[dT, sT] ty #[.slice (some ⟨g, off + j, none⟩) dl dc, .slice (some ⟨sb, so, none⟩) sl sc]).run P w = .ok (goInt (Nat.min sl dl)) (w.setCells g (off + j) cs) ∧
      Own (w.setCells g (off + j) cs) base e size (.slice (some ⟨g, off, none⟩) n cap) n (setL xs j cs) ∧ Fr (fun k => k = g) w (w.setCells g (off + j) cs) := by
  have hth := hown.there_ j cs.length hj hc
  exact ⟨run_copy_big w dT sT ty e g (off + j) dl dc ⟨sb, so, none⟩ sl sc size cs ht hs hlen (fun k u hk => by rw [Addr.add_lit]; exact hsrc k u hk) (fun k hk => (hth k hk).1) (fun k hk => (hth k hk).2) h1,
    hown.setCells_ cs w xs j hj, Fr.setCells_ _ _ _⟩

theorem wpList_copy_own {ops : Array Oper} {rest : List Oper} {o : Oper} {a : Act} {Q : Exit → Act → World → Prop} (hgd : o.guard = none) (d s : Operand) (t t' : TypeId)
    (ho : o.op = .call { callee := .builtin .copy, args := #[d, s], argTypes := #[t, t'] }) (ht : P.underlying t = some (.slice e)) (hs : (P.info? e).map (·.size) = some size)
    (hown : Own w base e size (.slice (some ⟨g, off, none⟩) n cap) n xs) (hc : 0 < cap) (j oj dl dc : Nat) (hoj : off + j = oj) (sb so sl sc : Nat) (cs : List Value) (hd : a.eval d = .slice (some ⟨g, oj, none⟩) dl dc) (hx : a.eval s = .slice (some ⟨sb, so, none⟩) sl sc)
    (hlen : cs.length = Nat.min sl dl * size) (hj : j + cs.length ≤ n * size)
    (hsrc : ∀ k u, cs[k]? = some u → w.cell? ⟨sb, so + k, none⟩ = some u) (h1 : ∀ u ∈ cs, u.oneCell' = true)
    (h : ∀ w', Own w' base e size (.slice (some ⟨g, off, none⟩) n cap) n (setL xs j cs) → Fr (fun k => k = g) w w' → wpList P ops Q rest (a.put o.dst (goInt (Nat.min sl dl))) w') : wpList P ops Q (o :: rest) a w := by
  subst hoj
  obtain ⟨hr, h2, h3⟩ := run_copy_own (P := P) t t' o.type ht hs hown hc j dl dc sb so sl sc cs hlen hj hsrc h1
  refine wpList_plain hgd fun K hK => ?_
  unfold Oper.wp execOp
  simp only [ho, resolve, invoke, builtin, Sem.run_bind, Sem.run_pure, Result.andThen_ok, List.map_toArray, List.map_cons, List.map_nil, hd, hx, hr]
  exact hK _ _ (h _ h2 h3)

/-- append(s[:i], make(S, m)...), where there is no room: a new row. -/
theorem wpList_append_zeros {ops : Array Oper} {rest : List Oper} {o : Oper} {a : Act} {Q : Exit → Act → World → Prop} (hgd : o.guard = none) (s x : Operand) (t tn : TypeId)
    (ho : o.op = .call { callee := .builtin .append, args := #[s, x], argTypes := #[t, tn] }) (i : TypeInfo) (z : Value) (bytes : Nat) (ht : P.underlying t = some (.slice e)) (htn : P.underlying tn = some (.int .i64)) (hi : P.info? e = some i) (hz : i.zero = some z)
    (hsize : i.size = size) (hby : i.bytes = bytes) (hzs : z.cells.size = size) (hsz : 0 < size)
    (hown : Own w base e size (.slice (some ⟨g, off, none⟩) n cap) n xs) (hbase : base ≤ w.heap.size) (k m N : Nat) (hN : k + m = N) (hk : k ≤ n) (hm : 0 < m) (hroom : cap < k + m)
    (hs : a.eval s = .slice (some ⟨g, off, none⟩) k cap) (q : Int) (hx : a.eval x = .int .i64 q) (hq : q = (m : Int)) (h63 : k + m ≤ maxLen) (hbytes : (k + m) * bytes ≤ 140737488355328)
    (h : ∀ G w', N ≤ G → G ≤ maxLen → Own w' base e size (.slice (some ⟨w.heap.size, 0, none⟩) N G) N (xs.take (k * size) ++ (Builtin.zeroCells z.cells m).toList) → Fr (fun _ => False) w w' → w.heap.size < w'.heap.size → wpList P ops Q rest (a.put o.dst (.slice (some ⟨w.heap.size, 0, none⟩) N G)) w') : wpList P ops Q (o :: rest) a w := by
  subst hsize hby hq hN
  have hx' := hown.1
  have hle : k * i.size ≤ n * i.size := Nat.mul_le_mul_right _ hk
  have htl : (xs.take (k * i.size)).length = k * i.size := by rw [List.length_take, hx']; omega
  have hold : (Builtin.firstCells i.size k (.slice (some ⟨g, off, none⟩) k cap)).run P w.drew = .ok (xs.take (k * i.size)).toArray w.drew :=
    run_firstCells_some w.drew i.size k ⟨g, off, none⟩ k cap (xs.take (k * i.size)) htl (fun j v hj => by
      rw [Addr.add_lit]
      rw [List.getElem?_take] at hj
      split at hj
      · exact hown.drew.cells j v hj
      · cases hj)
  have hsmall : k + m ≤ 9223372036854775807 := by simp only [maxLen] at h63; omega
  have hkb : m * i.bytes ≤ (k + m) * i.bytes := Nat.mul_le_mul_right _ (by omega)
  have hr := Lib.run_append_grow_zeros (P := P) w t tn o.type e i z .i64 .i64 ht htn hi hz (some ⟨g, off, none⟩) k cap (xs.take (k * i.size)) hold m hm hsz hroom (by omega) (by omega) (growslice_fits (by omega) hbytes)
  have hge := grownCap_ge w (k + m) cap e
  have hcm : grownCap w (k + m) cap e ≤ maxLen := grownCap_le_maxLen w (k + m) cap e h63
  have hlen : (xs.take (k * i.size) ++ (Builtin.zeroCells z.cells m).toList).length = (k + m) * i.size := by
    rw [List.length_append, htl, Array.length_toList, size_zeroCells, hzs, Nat.add_mul]
  refine wpList_plain hgd fun K hK => ?_
  unfold Oper.wp execOp
  simp only [ho, resolve, invoke, builtin, Sem.run_bind, Sem.run_pure, Result.andThen_ok, List.map_toArray, List.map_cons, List.map_nil, hs, hx, hr]
  refine hK _ _ (h _ _ hge hcm ⟨hlen, .inr ⟨w.heap.size, 0, _, _, rfl, hbase, heap_alloc_new w.drew _, by omega, hge, hcm, ?_, ?_⟩⟩ ⟨rfl, rfl, rfl, by simp, fun j hj _ => Below.heap_alloc w.drew _ j hj⟩ (by simp))
  · simp only [Array.size_append, List.size_toArray, size_zeroCells, hzs, htl, ← Nat.add_mul, Nat.zero_add]
    exact Nat.le_of_eq (by congr 1; omega)
  · simp only [Array.toList_append, List.append_assoc, List.drop_zero]
    rw [← List.append_assoc, ← hlen]
    exact List.take_left

/-- A row with room, one element longer: what lies behind is there, whatever it is. -/
theorem Own.longer (h : Own w base e size (.slice (some ⟨g, off, none⟩) n cap) n xs) (m : Nat) (hm : n + m ≤ cap) (hc : 0 < cap) : ∃ sp, sp.length = m * size ∧ Own w base e size (.slice (some ⟨g, off, none⟩) (n + m) cap) (n + m) (xs ++ sp) := by
  rcases h.2 with ⟨A', hv, hn⟩ | ⟨g', off', cap', cur, hv, hb, hg, hc', hn, hmx, hs, ht⟩
  · injection hv with h1 h2 h3
    omega
  · injection hv with h1 h2 h3
    injection h1 with h1
    injection h1 with h4 h5
    subst h4 h5 h3
    have e1 : (n + m) * size ≤ cap * size := Nat.mul_le_mul_right _ hm
    have e2 : (n + m) * size = n * size + m * size := Nat.add_mul _ _ _
    refine ⟨((cur.toList.drop off).drop (n * size)).take (m * size), ?_, ?_, .inr ⟨g, off, cap, cur, rfl, hb, hg, hc, hm, hmx, hs, ?_⟩⟩
    · simp only [List.length_take, List.length_drop, Array.length_toList]
      omega
    · simp only [List.length_append, h.1, List.length_take, List.length_drop, Array.length_toList]
      omega
    · rw [e2, List.take_add, ht]
end

/-- In place: what was behind is moved up, then the new one is laid. -/
theorem ins_shift (xs sp cs : List Value) (p k n : Nat) (hx : xs.length = n) (hp : p ≤ n) (hs : sp.length = k) (hc : cs.length = k) : setL (setL (xs ++ sp) (p + k) (xs.drop p)) p cs = xs.take p ++ cs ++ xs.drop p := by
  apply List.ext_getElem?
  intro q
  have hd : (xs.drop p).length = n - p := by rw [List.length_drop, hx]
  have ht : (xs.take p).length = p := by rw [List.length_take, hx]; omega
  rw [setL_get, setL_get, setL_len, List.length_append, hx, hs, hc, hd, List.append_assoc]
  by_cases h1 : q < p
  · rw [if_neg (by omega), if_neg (by omega), List.getElem?_append_left (by omega), List.getElem?_append_left (by omega), List.getElem?_take, if_pos h1]
  · by_cases h2 : q < p + k
    · rw [if_pos (by omega), List.getElem?_append_right (by omega), ht, List.getElem?_append_left (by omega)]
    · by_cases h3 : q < n + k
      · rw [if_neg (by omega), if_pos (by omega), List.getElem?_append_right (by omega), ht, List.getElem?_append_right (by omega), hc]
        congr 1
        omega
      · rw [if_neg (by omega), if_neg (by omega), List.getElem?_eq_none (by rw [List.length_append]; omega), List.getElem?_eq_none (by rw [List.length_append, List.length_append]; omega)]
/-- In a new row: the new one is laid, then what was behind. -/
theorem ins_fresh (xs zs cs : List Value) (p k n : Nat) (hx : xs.length = n) (hp : p ≤ n) (hs : zs.length = n + k - p) (hc : cs.length = k) : setL (setL (xs.take p ++ zs) p cs) (p + k) (xs.drop p) = xs.take p ++ cs ++ xs.drop p := by
  apply List.ext_getElem?
  intro q
  have hd : (xs.drop p).length = n - p := by rw [List.length_drop, hx]
  have ht : (xs.take p).length = p := by rw [List.length_take, hx]; omega
  rw [setL_get, setL_get, setL_len, List.length_append, ht, hs, hc, hd, List.append_assoc]
  by_cases h1 : q < p
  · rw [if_neg (by omega), if_neg (by omega), List.getElem?_append_left (by omega), List.getElem?_append_left (by omega)]
  · by_cases h2 : q < p + k
    · rw [if_neg (by omega), if_pos (by omega), List.getElem?_append_right (by omega), ht, List.getElem?_append_left (by omega)]
    · by_cases h3 : q < n + k
      · rw [if_pos (by omega), List.getElem?_append_right (by omega), ht, List.getElem?_append_right (by omega), hc]
        congr 1
        omega
      · rw [if_neg (by omega), if_neg (by omega), List.getElem?_eq_none (by rw [List.length_append]; omega), List.getElem?_eq_none (by rw [List.length_append, List.length_append]; omega)]

end Go.Proofs.Ytncgpojjibojlaa

/- slices.Delete of one replica: its contract. -/
import Derived.Test.YtncgpojjibojlaaRePq
namespace Go.Proofs.Ytncgpojjibojlaa
open Go Go.RowKit Go.Sort

/-- A slice of the call's own, looked at further on, up to its capacity. -/
theorem Own.extend {w : World} {base size n m : Nat} {e : TypeId} {A : Option Addr} {cap : Nat} {xs : List Value} (h : Own w base e size (.slice A n cap) n xs) (hn : n ≤ m) (hm : m ≤ cap) (hc : 0 < cap) : ∃ ys, Own w base e size (.slice A m cap) m (xs ++ ys) := by
  rcases h.2 with ⟨A', hv, h0⟩ | ⟨g, off, cap', cur, hv, hb, hg, hcp, hnc, hcm, hs, ht⟩
  · injection hv with h1 h2 h3; omega
  · injection hv with h1 h2 h3
    subst h1 h3
    refine ⟨((cur.toList.drop off).take (m * size)).drop (n * size), ?_, .inr ⟨g, off, cap, cur, rfl, hb, hg, hcp, hm, hcm, hs, ?_⟩⟩
    · have h4 : n * size ≤ m * size := Nat.mul_le_mul_right _ hn
      have h5 : m * size ≤ cap * size := Nat.mul_le_mul_right _ hm
      rw [List.length_append, h.1, List.length_drop, List.length_take, List.length_drop, Array.length_toList]
      omega
    · have h4 : n * size ≤ m * size := Nat.mul_le_mul_right _ hn
      have h6 : ((cur.toList.drop off).take (m * size)).take (n * size) = xs := by rw [List.take_take, Nat.min_eq_left h4, ht]
      rw [← h6, List.take_append_drop]

theorem Rd.sub {w : World} {b off cap n k : Nat} {size : Nat} {xs : List Value} (h : Rd w size (.slice (some ⟨b, off, none⟩) n cap) n xs) (hk : k ≤ n) (c : Nat) (hc : n - k ≤ c) (hc2 : c ≤ maxLen) : Rd w size (.slice (some ⟨b, off + k * size, none⟩) (n - k) c) (n - k) (xs.drop (k * size)) := by
  have h2 := h.cutHead hk (some ⟨b, off + k * size, none⟩) (fun _ => rfl)
  obtain ⟨h3, A, cap', hv, _, _, h6⟩ := h2
  injection hv with e1 e2 e3
  exact ⟨h3, _, c, rfl, hc, hc2, fun h0 => by rw [e1]; exact h6 h0⟩

/-- append where there is room: the slice lies where it lay. -/
theorem run_append_room {P : Program} (w : World) (base : Nat) (t ty e : TypeId) (i : TypeInfo) (ht : P.underlying t = some (.slice e)) (hi : P.info? e = some i)
    (g o n cap : Nat) (xs : List Value) (hcap0 : 0 < cap) (hown : Own w base e i.size (.slice (some ⟨g, o, none⟩) n cap) n xs)
    (src : Value) (m : Nat) (news : List Value) (hsrc : Rd w i.size src m news) (h1 : ∀ u ∈ news, u.oneCell' = true) (hroom : n + m ≤ cap) :
    ∃ w', (Builtin.append_ #[t, t] ty #[.slice (some ⟨g, o, none⟩) n cap, src]).run P w = .ok (.slice (some ⟨g, o, none⟩) (n + m) cap) w' := by
  obtain ⟨hl, A, c, rfl, hmc, hcm, hcells⟩ := hsrc
  have hnc : n ≤ cap := by omega
  by_cases hm : m = 0
  · subst hm
    obtain rfl : news = [] := List.eq_nil_of_length_eq_zero (by simpa using hl)
    refine ⟨w, ?_⟩
    cases A <;> simp [Builtin.append_, run_underlying ht, sizeOf, typeInfo, hi, Builtin.lenOf, Builtin.firstCells, loadCells, loadCellsFrom, hnc, storeCells]
  · obtain ⟨b, off, rfl, hb, hc⟩ := hcells (by omega)
    have hc' : ∀ j u, news[j]? = some u → w.cell? ((⟨b, off, none⟩ : Addr).add j) = some u := fun j u hj => by rw [Addr.add_lit]; exact hc j u hj
    rcases hown.2 with ⟨B, hv, h0⟩ | ⟨g', o', cap', cur, hv, hbg, hg, hcp, hnc', hcm', hcs, htake⟩
    · injection hv with e1 e2 e3; omega
    · injection hv with e1 e2 e3
      injection e1 with e1
      injection e1 with e4 e5
      subst e4 e5 e3
      have e1 : (n + m) * i.size ≤ cap * i.size := Nat.mul_le_mul_right _ hroom
      have e2 : (n + m) * i.size = n * i.size + m * i.size := Nat.add_mul _ _ _
      have hf := run_firstCells_some (P := P) w i.size m ⟨b, off, none⟩ m c news hl hc'
      have hst := run_storeCells_at P g (o + n * i.size) e news 0 cur w hg (by omega) h1
      simp only [Nat.add_zero] at hst
      exact ⟨w.setRow g (cur.toList.take (o + n * i.size) ++ news ++ cur.toList.drop (o + n * i.size + news.length)).toArray, by simp [Builtin.append_, run_underlying ht, sizeOf, typeInfo, hi, Builtin.lenOf, hroom, hf, Addr.add_lit, hst]⟩

theorem wpList_append_room {P : Program} {w : World} {ops : Array Oper} {rest : List Oper} {o : Oper} {a : Act} {Q : Exit → Act → World → Prop} (hgd : o.guard = none) (s x : Operand) (t : TypeId)
    (ho : o.op = .call { callee := .builtin .append, args := #[s, x], argTypes := #[t, t] })
    (base : Nat) (e : TypeId) (i : TypeInfo) (z : Value) (size bytes : Nat) (ht : P.underlying t = some (.slice e)) (hi : P.info? e = some i) (hz : i.zero = some z)
    (hsize : i.size = size) (hby : i.bytes = bytes) (hzs : z.cells.size = size) (hsz : 0 < size)
    (g off n cap : Nat) (xs : List Value) (hs : a.eval s = .slice (some ⟨g, off, none⟩) n cap) (hcap0 : 0 < cap) (hown : Own w base e size (.slice (some ⟨g, off, none⟩) n cap) n xs)
    (src : Value) (m : Nat) (news : List Value) (hx : a.eval x = src) (hsrc : Rd w size src m news) (h1 : ∀ u ∈ news, u.oneCell' = true)
    (hroom : n + m ≤ cap) (h63 : n + m ≤ maxLen) (hbytes : (n + m) * bytes ≤ 140737488355328) (hbase : base ≤ w.heap.size)
    (h : ∀ w', Own w' base e size (.slice (some ⟨g, off, none⟩) (n + m) cap) (n + m) (xs ++ news) → Fr (fun k => blk (.slice (some ⟨g, off, none⟩) n cap) = some k) w w' → wpList P ops Q rest (a.put o.dst (.slice (some ⟨g, off, none⟩) (n + m) cap)) w') : wpList P ops Q (o :: rest) a w := by
  refine wpList_plain hgd fun K hK => ?_
  obtain ⟨v', w', hr, h2, h3, h4, h5⟩ := run_append_seg (P := P) w base t o.type e i z size bytes ht hi hz hsize hby hzs hsz _ n xs hown src m news hsrc h1 h63 hbytes hbase
  subst hsize
  obtain ⟨w2, hr2⟩ := run_append_room (P := P) w base t o.type e i ht hi g off n cap xs hcap0 hown src m news hsrc h1 hroom
  rw [hr] at hr2
  injection hr2 with e1 e2
  subst e1
  unfold Oper.wp execOp
  simp only [ho, resolve, invoke, builtin, Sem.run_bind, Sem.run_pure, Result.andThen_ok, List.map_toArray, List.map_cons, List.map_nil, hs, hx, hr]
  exact hK _ _ (h w' h2 h3)

set_option maxHeartbeats 4000000 in
set_option maxRecDepth 100000 in
theorem delR_any (base : Nat) (v : Value) (l : List Re) (i : Nat) (w : World) (hl : l.length ≤ 1000) (hi : i < l.length) (hbase : base ≤ w.heap.size) (hown : Own w base 52 5 v l.length (l.flatMap reC)) :
    Calls Try.prog 73 #[v, .int .i64 i, .int .i64 ((i : Int) + 1)] w (PutE base v (l.take i ++ l.drop (i + 1)) w) := by
  obtain ⟨ii, hii, hz0, hz1, hz2⟩ := info_parts info_re
  obtain ⟨g, off, cap, hv, hnc, hcm, hbg, hgl, hbk⟩ := hown.form (by omega)
  subst hv
  obtain ⟨n, hn⟩ : ∃ n, l.length = n := ⟨_, rfl⟩
  rw [hn] at hown hi hl hnc hbk ⊢
  have HN := Lib.hid hn
  have HO := Lib.hid hown
  have HBK := Lib.hid hbk
  have hc63 : cap ≤ 9223372036854775807 := by unfold maxLen at hcm; omega
  have HCM := Lib.hid hcm
  have hiI : (i : Int) < (n : Int) := by omega
  have hi1 : (i : Int) + 1 ≤ (n : Int) := by omega
  have hi0 : (0 : Int) ≤ (i : Int) + 1 := by omega
  have hii1 : (i : Int) ≤ (i : Int) + 1 := by omega
  have hto : ((i : Int) + 1).toNat = i + 1 := by omega
  have hne : ((i : Int) == (i : Int) + 1) = false := by simp; omega
  have hnC : (n : Int) ≤ (cap : Int) := by omega
  have hcap0 : 0 < cap := by omega
  clear hn hown hcm hbk
  go_enter Try.func73, Try.ntmps73
  go_wp2_with fail
  refine wp_region_quiet_tail (C := fun w' => ∃ n, w' = World.drewN _ n) 6 (by kernel_rfl) (by kernel_rfl) ⟨1, rfl⟩ ?_
  simp only [List.take_succ_cons, List.take_zero, List.drop_succ_cons, List.drop_zero]
  repeat (go_big_quiet_step (fail))
  refine wpQuiet_nil ?_
  intro _ hw'
  obtain ⟨nq, hw''⟩ := hw'
  subst hw''
  have HO1 := Lib.hid (HO.out.drewN nq)
  have HF1 : Hid (Fr (fun k => blk (.slice (some ⟨g, off, none⟩) n cap) = some k) w (w.drewN nq)) := Fr.drewN w nq _
  generalize w.drewN nq = w1 at *
  have hca : (i : Int) + 1 ≤ (cap : Int) := by omega
  obtain ⟨AA, hAA⟩ : ∃ AA, (if cap = i + 1 then some (⟨g, off, none⟩ : Addr) else some ⟨g, off + (i + 1) * 5, none⟩) = AA := ⟨_, rfl⟩
  rw [hAA]
  have HSR : Hid (Rd w1 5 (.slice AA (n - (i + 1)) (cap - (i + 1))) (n - (i + 1)) ((l.drop (i + 1)).flatMap reC)) := by
    have h5 := HO1.out.rd.cutHead (k := i + 1) (by omega) AA (fun h => by rw [← hAA, if_neg (by omega)])
    rw [flat_drop reC 5 reC_len] at h5
    exact h5
  have HOC : Hid (Own w1 base 52 5 (.slice (some ⟨g, off, none⟩) i cap) i ((l.take i).flatMap reC)) := by
    have h5 := HO1.out.cutEnd (k := i) (by omega)
    rw [flat_take reC 5 reC_len] at h5
    exact h5
  have hg1 : w1.heap.size = w.heap.size ∨ True := .inr trivial
  have hbase1 : base ≤ w1.heap.size := Nat.le_trans hbase HF1.out.size
  clear hAA hto hg1
  obtain ⟨q, hq⟩ : ∃ q, i + (n - (i + 1)) = q := ⟨_, rfl⟩
  have hqn : q + 1 = n := by omega
  have HQ := Lib.hid hq
  have HQN := Lib.hid hqn
  have hqc : (q : Int) ≤ (n : Int) := by omega
  have hcq : ¬ cap = q := by omega
  go_wp2_with (at_builtin; refine wpList_append_room rfl _ _ 41 rfl base 52 ii _ 5 24 (by kernel_rfl) hii hz0 hz1 hz2 rfl (by omega) g off i cap _ rfl hcap0 HOC.out (.slice AA (n - (i + 1)) (cap - (i + 1))) (n - (i + 1)) _ rfl HSR.out (reC_one _) (by omega) (by unfold maxLen; omega) (by omega) hbase1 ?_; rw [hq]; intro w2 hown2 hfr2; have HO2 := Lib.hid hown2; have HF2 := Lib.hid (HF1.out.trans hfr2 (fun k hk => .inl (by rw [blk_len' _ _ _ n] at hk; exact hk))); obtain ⟨ys, hext⟩ := hown2.extend (m := n) (by omega) hnc hcap0; have HE2 := Lib.hid hext; clear hown2 hfr2 hext; go_wp2_with (with_reducible refine wpList_clear_own (j := q * 5) (oj := off + q * 5) (m := n - q) (c := cap - q) rfl (.tmp 31) 41 rfl (.agg #[.int .i64 0, .int .i64 0, .int .u32 0, .bool false, .bool false]) Try.underlying41 (fun w => by kernel_rfl) rfl (by simp [Value.cells, Value.oneCell']) HE2.out hcap0 ?c1 rfl ?c2 ?c3 ?c4))
  case c1 => rfl
  case c2 => omega
  case c3 => have hqn2 := HQN.out
             show q * 5 + (n - q) * 5 ≤ n * 5
             omega
  case c4 =>
    intro w3 ho3 hf3
    have HF3 := Lib.hid (HF2.out.trans hf3 (fun k hk => .inl (by have e' : k = g := hk; rw [e']; exact HBK.out)))
    have h4 := ho3.cutEnd (k := q) (by omega)
    have hlen : (l.take i ++ l.drop (i + 1)).length = q := by rw [List.length_append, List.length_take, List.length_drop, HN.out, ← HQ.out]; omega
    have h5 : ∀ cs, (setL ((l.take i).flatMap reC ++ (l.drop (i + 1)).flatMap reC ++ ys) (q * 5) cs).take (q * 5) = (l.take i ++ l.drop (i + 1)).flatMap reC := fun cs => by
      rw [List.flatMap_append]
      have hl5 : ((l.take i).flatMap reC ++ (l.drop (i + 1)).flatMap reC).length = q * 5 := by rw [← List.flatMap_append, flat_len reC 5 reC_len, hlen]
      apply List.ext_getElem?
      intro p
      rw [List.getElem?_take]
      by_cases hp : p < q * 5
      · rw [if_pos hp, setL_get, if_neg (fun h => absurd h.1 (by omega)), List.getElem?_append_left (by rw [hl5]; exact hp)]
      · rw [if_neg hp, List.getElem?_eq_none (by rw [hl5]; omega)]
    rw [← List.append_assoc, h5 _] at h4
    have HO4 := Lib.hid h4
    have HLN := Lib.hid hlen
    clear ho3 hf3 h4 h5 hlen
    go_wp2_with fail
    go_ret
    refine ⟨_, rfl, ?_, HF3.out, .inl (blk_len' _ _ _ _)⟩
    rw [HLN.out]
    exact HO4.out

end Go.Proofs.Ytncgpojjibojlaa

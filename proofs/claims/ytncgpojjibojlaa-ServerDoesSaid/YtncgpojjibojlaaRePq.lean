/- replica.put, slices.Delete of one replica: their contracts. -/
import Derived.Test.YtncgpojjibojlaaReFq
import Derived.Test.YtncgpojjibojlaaClrq
namespace Go.Proofs.Ytncgpojjibojlaa
open Go Go.RowKit Go.Sort

def PutE (base : Nat) (v : Value) (l : List Re) (w : World) (e : Ending) (w' : World) : Prop :=
  ∃ v', e = .returned v' ∧ Own w' base 52 5 v' l.length (l.flatMap reC) ∧ Fr (fun k => blk v = some k) w w' ∧ (blk v' = blk v ∨ ∃ k, blk v' = some k ∧ w.heap.size ≤ k)

theorem blk_len' (A : Option Addr) (m cap n : Nat) : blk (.slice A m cap) = blk (.slice A n cap) := by cases A <;> cases cap <;> rfl
theorem set_same {l : List Re} {i : Nat} {x : Re} (hi : i ≤ l.length) : (l.take i ++ x :: l.drop i).set i x = l.take i ++ x :: l.drop i := by
  apply List.ext_getElem?
  intro j
  rw [List.getElem?_set]
  by_cases e : i = j
  · subst e
    have hl : (l.take i).length = i := by rw [List.length_take]; omega
    rw [if_pos rfl, if_pos (by simp; omega), List.getElem?_append_right (by omega), hl, Nat.sub_self]
    rfl
  · rw [if_neg e]

set_option maxHeartbeats 4000000 in
set_option maxRecDepth 100000 in
theorem putR_any (base : Nat) (v : Value) (l : List Re) (x : Re) (w : World) (hl : l.length ≤ 1000) (hr : Ris kR l) (hbase : base ≤ w.heap.size) (hown : Own w base 52 5 v l.length (l.flatMap reC)) :
    Calls Try.prog 72 #[v, .agg #[.int .i64 x.1, .int .i64 x.2.1, .int .u32 x.2.2.1, .bool x.2.2.2.1, .bool x.2.2.2.2]] w (PutE base v (putR l x) w) := by
  obtain ⟨A, cap, hv⟩ := hown.slice_
  subst hv
  obtain ⟨n, hn⟩ : ∃ n, l.length = n := ⟨_, rfl⟩
  have HN := Lib.hid hn
  have HO := Lib.hid hown
  have HRS := Lib.hid hr
  have hkx : kR x = 2 * x.1 + flI x.2.2.2.1 := rfl
  have HKX := Lib.hid hkx
  rw [hn] at hl ⊢
  have HPT := fun i (c : Cut kR l (kR x) i) (h : isAt kR l (kR x) i = true) => put_there c hr h
  have HPN := fun i (c : Cut kR l (kR x) i) (h : isAt kR l (kR x) i = false) => put_new c hr h
  obtain ⟨x0, x1, x2, x3, x4⟩ := x
  have HPT' := Lib.hid HPT
  have HPN' := Lib.hid HPN
  simp only at HKX
  clear hown hr hn hkx HPT HPN
  go_enter Try.func72, Try.ntmps72
  go_wp2_with fail
  have hal := below_one w (.cells #[.int .i64 x0, .int .i64 x1, .int .u32 x2, .bool x3, .bool x4] 52)
  have hbx := Bx.new w 52 [.int .i64 x0, .int .i64 x1, .int .u32 x2, .bool x3, .bool x4]
  change Bx (w.alloc (.cells #[.int .i64 x0, .int .i64 x1, .int .u32 x2, .bool x3, .bool x4] 52)) _ _ _ at hbx
  generalize (w.alloc (.cells #[.int .i64 x0, .int .i64 x1, .int .u32 x2, .bool x3, .bool x4] 52)) = w0 at *
  have HO0 := Lib.hid (HO.out.below hal (Nat.le_refl _))
  have HAL := Lib.hid hal
  have HBV := Lib.hid (fun g (hg : blk (.slice A l.length cap) = some g) => (HO.out.blk_lt hg).2)
  obtain ⟨bb, hbb⟩ : ∃ b, w.heap.size = b := ⟨_, rfl⟩
  rw [hbb] at hbx HBV ⊢
  have HBB := Lib.hid hbb
  refine (findR_any _ l x0 x3 w0 (by rw [HN.out]; exact hl) (by have := HO0.out.rd; rw [HN.out] at this ⊢; exact this)).mono ?_
  rintro e w1 ⟨i, b, hi, rfl, hb1, hris⟩
  obtain ⟨hcut, hat⟩ := hris HRS.out
  rw [← HKX.out] at hcut hat
  have HCUT := Lib.hid hcut
  have HAT := Lib.hid hat
  have HO1 := Lib.hid (HO0.out.below hb1 (Nat.le_refl _))
  have HX1 := Lib.hid (hbx.below' hb1)
  have HB1 := Lib.hid (below_then hal hb1)
  obtain ⟨q0, q1, q2, q3, q4⟩ := HX1.out.five
  rw [HN.out] at hi HO1 HBV
  clear hal hbx hbb hb1 hris hcut hat HO HO0 HAL
  cases b with
  | true =>
    have hit : isAt kR l (kR (x0, x1, x2, x3, x4)) i = true := HAT.out.symm
    have hin : i < n := by rw [← HN.out]; exact (of_decide_eq_true hit).1
    have HPE := Lib.hid (HPT'.out i HCUT.out hit)
    have hiI : (i : Int) < (n : Int) := by omega
    obtain ⟨g, off, cap', hv, hnc, hcm, hbg, hgl, hbk⟩ := HO1.out.form (by omega)
    injection hv with hA _ hcc
    subst hA hcc
    have hcap0 : 0 < cap := by omega
    have HBK := Lib.hid hbk
    clear hit hbk hcm
    go_wp2_with (with_reducible refine wpList_store_own rfl 52 _ _ rfl HO1.out (i * 5) #[.int .i64 x0, .int .i64 x1, .int .u32 x2, .bool x3, .bool x4] rfl rfl ?h1 hcap0 ?h2 ?h3 ?h4)
    case h1 => show i * 5 + 5 ≤ n * 5; omega
    case h2 => kernel_rfl
    case h3 => simp [Value.oneCell']
    case h4 =>
      intro w3 ho3 hf3
      have h5 : setL (l.flatMap reC) (i * 5) [.int .i64 x0, .int .i64 x1, .int .u32 x2, .bool x3, .bool x4] = (l.set i (x0, x1, x2, x3, x4)).flatMap reC := flat_setL reC 5 reC_len (by omega) l i (x0, x1, x2, x3, x4) (by rw [HN.out]; exact hin)
      have ho4 : Own w3 base 52 5 (.slice (some ⟨g, off, none⟩) n cap) n ((l.set i (x0, x1, x2, x3, x4)).flatMap reC) := by rw [← h5]; exact ho3
      have HO4 := Lib.hid ho4
      have HF4 : Hid (Fr (fun k => blk (.slice (some ⟨g, off, none⟩) n cap) = some k) w w3) := (Fr.of_below HB1.out).trans hf3 (fun k hk => .inl (by have e' : k = g := hk; rw [e']; exact HBK.out))
      have HLS : Hid ((l.set i (x0, x1, x2, x3, x4)).length = n) := by rw [← HN.out]; exact List.length_set
      clear h5 ho3 hf3 ho4
      go_wp2_with fail
      go_ret
      refine ⟨_, rfl, ?_, HF4.out, .inl rfl⟩
      rw [← HPE.out, HLS.out]
      exact HO4.out
  | false =>
    have hit : isAt kR l (kR (x0, x1, x2, x3, x4)) i = false := HAT.out.symm
    have HPE := Lib.hid (HPN'.out i HCUT.out hit)
    clear hit
    go_wp2_with fail
    have hal := below_one w1 (.cells #[.int .i64 x0, .int .i64 x1, .int .u32 x2, .bool x3, .bool x4] 52)
    have hbx := Bx.new w1 52 (reC (x0, x1, x2, x3, x4))
    refine (insert_re base _ l (x0, x1, x2, x3, x4) i w1.heap.size (w1.alloc (.cells (reC (x0, x1, x2, x3, x4)).toArray 52)) (by rw [HN.out]; exact hl) (by rw [HN.out]; exact hi) (by rw [HN.out]; exact HO1.out.alloc _) hbx (by have := HB1.out.size; simp; omega) (fun g hg e => by have := (HO1.out.blk_lt hg).2; omega)).mono ?_
    rintro e w2 ⟨v2, rfl, ho2, hf2, hk2⟩
    have hlen : (l.take i ++ (x0, x1, x2, x3, x4) :: l.drop i).length = n + 1 := by rw [List.length_append, List.length_cons, List.length_take, List.length_drop, HN.out]; omega
    have HSS := Lib.hid (set_same (l := l) (x := (x0, x1, x2, x3, x4)) (i := i) (by rw [HN.out]; exact hi))
    have hx2 := ((HX1.out.alloc (.cells (reC (x0, x1, x2, x3, x4)).toArray 52)).fr hf2 (fun e => by have := HBV.out _ e; omega))
    have HX2 := Lib.hid hx2
    have hsw1 : w.heap.size ≤ w1.heap.size := HB1.out.size
    have HF2 : Hid (Fr (fun k => blk (.slice A n cap) = some k) w w2) := (Fr.of_below (HB1.out.trans (hal.mono hsw1))).trans hf2 (fun k hk => .inl hk)
    have HK2 : Hid (blk v2 = blk (.slice A n cap) ∨ ∃ k, blk v2 = some k ∧ w.heap.size ≤ k) := hk2.imp id (fun ⟨k, h1, h2⟩ => ⟨k, h1, by simp at h2; omega⟩)
    obtain ⟨ll, hll⟩ : ∃ ll, l.take i ++ (x0, x1, x2, x3, x4) :: l.drop i = ll := ⟨_, rfl⟩
    rw [hll] at ho2 hlen HSS HPE
    obtain ⟨m, hm⟩ : ∃ m, n + 1 = m := ⟨_, rfl⟩
    rw [hm] at hlen
    rw [hlen] at ho2
    obtain ⟨A2, cap2, hv2⟩ := ho2.slice_
    subst hv2
    obtain ⟨g, off, cap', hv, hnc, hcm, hbg, hgl, hbk⟩ := ho2.form (by omega)
    injection hv with hA _ hcc
    subst hA hcc
    have hcap0 : 0 < cap2 := by omega
    have HO2 := Lib.hid ho2
    have HBK := Lib.hid hbk
    have HLL := Lib.hid hlen
    obtain ⟨q0, q1, q2, q3, q4⟩ := hx2.five
    have hiI : (i : Int) < (m : Int) := by omega
    have him : i < m := by omega
    have HSL : Hid (setL (ll.flatMap reC) (i * 5) [.int .i64 x0, .int .i64 x1, .int .u32 x2, .bool x3, .bool x4] = ll.flatMap reC) := by
      have h5 := flat_setL reC 5 reC_len (by omega) ll i (x0, x1, x2, x3, x4) (by rw [HLL.out]; exact him)
      rw [HSS.out] at h5
      exact h5
    clear hal hbx ho2 hf2 hk2 hx2 hll hlen hbk hcm
    go_wp2_with (with_reducible refine wpList_store_own rfl 52 _ _ rfl HO2.out (i * 5) #[.int .i64 x0, .int .i64 x1, .int .u32 x2, .bool x3, .bool x4] rfl rfl ?h1 hcap0 ?h2 ?h3 ?h4)
    case h1 => show i * 5 + 5 ≤ m * 5; omega
    case h2 => kernel_rfl
    case h3 => simp [Value.oneCell']
    case h4 =>
      intro w3 ho3 hf3
      have ho4 : Own w3 base 52 5 (.slice (some ⟨g, off, none⟩) m cap2) m (ll.flatMap reC) := by have := HSL.out; rw [← this]; exact ho3
      have HO4 := Lib.hid ho4
      have HF4 : Hid (Fr (fun k => blk (.slice A n cap) = some k) w w3) := HF2.out.trans hf3 (fun k hk => by
        have e' : k = g := hk
        rcases HK2.out with h5 | ⟨k', h5, h6⟩
        · exact .inl (by rw [e', ← h5, blk_len' _ _ _ _]; exact HBK.out)
        · have h7 : blk (.slice (some ⟨g, off, none⟩) m cap2) = some g := by rw [blk_len' _ _ _ _]; exact HBK.out
          exact .inr (by rw [e']; have h8 := h5; rw [h7] at h8; cases h8; exact h6))
      clear ho3 hf3 ho4
      go_wp2_with fail
      go_ret
      refine ⟨_, rfl, ?_, HF4.out, ?_⟩
      · rw [← HPE.out, HLL.out]
        exact HO4.out
      · rcases HK2.out with h5 | h5
        · exact .inl ((blk_len' _ _ _ _).trans h5)
        · exact .inr (by obtain ⟨k, h6, h7⟩ := h5; exact ⟨k, (blk_len' _ _ _ _).trans h6, h7⟩)

end Go.Proofs.Ytncgpojjibojlaa

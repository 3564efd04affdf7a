/- slices.IndexFunc and DeleteFunc at replicas with the closure suture/replica.Abort$1, that may keep something of its own (J): their contracts. -/
import Derived.Test.YtncgpojjibojlaaReDq
namespace Go.Proofs.Ytncgpojjibojlaa
open Go Go.RowKit Go.Sort

def PredR_abo (J : List Re → World → Prop) (S : Nat → Prop) (c1 : Value) (p : Re → Bool) : Prop := ∀ (x : Re) (pre : List Re) (W0 W : World), pre.length < 1000 → J pre W0 → Below W0.heap.size W0 W →
  Calls Try.prog 77 #[.agg #[.int .i64 x.1, .int .i64 x.2.1, .int .u32 x.2.2.1, .bool x.2.2.2.1, .bool x.2.2.2.2], c1] W fun e w' => e = .returned (.bool (p x)) ∧ J (pre ++ [x]) w' ∧ Fr S W w' ∧ ∀ k, W0.heap.size ≤ k → k < W.heap.size → w'.heap[k]? = W.heap[k]?

def IdxR_abo (J : List Re → World → Prop) (S : Nat → Prop) (l : List Re) (p : Re → Bool) (w : World) (e : Ending) (w' : World) : Prop :=
  ((∃ k : Nat, k < l.length ∧ p (at_ l k) = true ∧ (∀ j, j < k → p (at_ l j) = false) ∧ J (l.take (k + 1)) w' ∧ e = .returned (.int .i64 k)) ∨ ((∀ j, j < l.length → p (at_ l j) = false) ∧ J l w' ∧ e = .returned (.int .i64 (-1)))) ∧ Fr S w w'

set_option maxHeartbeats 1000000 in
theorem indexR_abo (J : List Re → World → Prop) (S : Nat → Prop) (base : Nat) (v : Value) (l : List Re) (c1 : Value) (p : Re → Bool) (w : World) (hl : l.length ≤ 1000) (hO : Own w base 52 5 v l.length (l.flatMap reC)) (hS : ∀ g, blk v = some g → ¬ S g) (h0 : J [] w) (hp : PredR_abo J S c1 p) :
    Calls Try.prog 105 #[v, .func (.func 77) #[] #[c1]] w (IdxR_abo J S l p w) := by
  obtain ⟨A, cap, hv⟩ := hO.slice_
  obtain ⟨n, hn⟩ : ∃ n, l.length = n := ⟨_, rfl⟩
  have HO := Lib.hid hO
  have HN := Lib.hid hn
  have HP := Lib.hid hp
  have HS := Lib.hid hS
  have H0 := Lib.hid h0
  have hnc : n ≤ 9223372036854775807 := by obtain ⟨A', cap', _, h1, h2⟩ := hO.rd.shape; omega
  rw [hn] at hv hl
  subst hv
  clear hO hn hp hS h0
  go_enter Try.func105, Try.ntmps105
  go_wp2_with fail
  go_loopw [8] (fun i wr => ∃ k : Nat, k ≤ n ∧ i = .int .i64 k ∧ (∀ j, j < k → p (at_ l j) = false) ∧ J (l.take k) wr ∧ Fr S w wr) (fun i _ => n - (intOf i).toNat)
  case atStart => exact ⟨0, Nat.zero_le _, rfl, fun j hj => absurd hj (by omega), H0.out, Fr.refl _ _⟩
  case round =>
    obtain ⟨k, hk, rfl, hall, hj, hfr⟩ := hrel
    have HA := Lib.hid hall
    have HJ := Lib.hid hj
    have HF := Lib.hid hfr
    clear hall hj hfr
    by_cases hlt : k < n
    · have hltI : (k : Int) < (n : Int) := by omega
      have hR1 := (HO.out.fr HF.out HS.out).rd
      rw [HN.out] at hR1
      obtain ⟨b, off, hA, hbl⟩ := hR1.addr (by omega)
      subst hA
      obtain ⟨c0, c1', c2, c3, c4⟩ := rd_re hR1 k (by rw [HN.out]; exact hlt)
      have htk := take_at (l := l) (i := k) (by rw [HN.out]; exact hlt)
      obtain ⟨x, hx⟩ : ∃ x, at_ l k = x := ⟨_, rfl⟩
      rw [hx] at c0 c1' c2 c3 c4 htk
      have HX := Lib.hid hx
      have CP := fun W (hb : Below wr.heap.size wr W) => HP.out x (l.take k) wr W (by rw [List.length_take]; omega) HJ.out hb
      rw [← htk] at CP
      have HCP := Lib.hid CP
      obtain ⟨x0, x1, x2, x3, x4⟩ := x
      simp only at c0 c1' c2 c3 c4
      clear hx hR1 htk CP
      go_wp2_with fail
      refine (HCP.out wr (Below.refl _ _)).mono ?_
      rintro e w1 ⟨rfl, hj1, hf1, _⟩
      have HJ1 := Lib.hid hj1
      have HF1 := Lib.hid (HF.out.trans hf1 (fun _ h => .inl h))
      clear hj1 hf1
      obtain ⟨px, hpx⟩ : ∃ b, p (x0, x1, x2, x3, x4) = b := ⟨_, rfl⟩
      rw [hpx]
      have HPX := Lib.hid hpx
      clear hpx
      cases px with
      | true =>
        go_wp2_with fail
        go_ret
        exact ⟨.inl ⟨k, by rw [HN.out]; exact hlt, by rw [HX.out]; exact HPX.out, HA.out, HJ1.out, rfl⟩, HF1.out⟩
      | false =>
        go_wp2_with fail
        go_roundw
        case rel => exact ⟨k + 1, by omega, by go_num, fun j hj => by
          by_cases e : j = k
          · subst e; rw [HX.out]; exact HPX.out
          · exact HA.out j (by omega), HJ1.out, HF1.out⟩
        case measure => simp [intOf]; omega
    · obtain rfl : k = n := by omega
      go_wp2_with fail
      go_ret
      exact ⟨.inr ⟨by rw [HN.out]; exact HA.out, by have := HJ.out; rw [← HN.out, List.take_length] at this; exact this, rfl⟩, HF.out⟩

theorem filtR_none_abo {l : List Re} {p : Re → Bool} (h : ∀ j, j < l.length → p (at_ l j) = false) : l.filter (fun z => !p z) = l := List.filter_eq_self.2 fun y hy => by
  obtain ⟨j, hj, rfl⟩ := mem_at hy
  rw [h j hj]
  rfl
theorem filtR_first_abo {l : List Re} {p : Re → Bool} {k : Nat} (hk : k < l.length) (h1 : p (at_ l k) = true) (h : ∀ j, j < k → p (at_ l j) = false) : (l.take (k + 1)).filter (fun z => !p z) = l.take k := by
  rw [take_at hk, List.filter_append]
  have e1 : (l.take k).filter (fun z => !p z) = l.take k := List.filter_eq_self.2 fun y hy => by
    obtain ⟨j, hj, rfl⟩ := List.mem_iff_getElem.1 hy
    rw [List.getElem_take]
    rw [List.length_take] at hj
    have := h j (by omega)
    rw [at_eq (show j < l.length by omega)] at this
    rw [this]
    rfl
  rw [e1]
  simp [h1]

def DelR_abo (J : List Re → World → Prop) (S : Nat → Prop) (base : Nat) (v : Value) (l : List Re) (p : Re → Bool) (w : World) (e : Ending) (w' : World) : Prop :=
  ∃ v', e = .returned v' ∧ Own w' base 52 5 v' (l.filter (fun z => !p z)).length ((l.filter (fun z => !p z)).flatMap reC) ∧ Fr (fun k => blk v = some k ∨ S k) w w' ∧ (∀ g, blk v' = some g → blk v = some g) ∧ J l w'

set_option maxHeartbeats 4000000 in
set_option maxRecDepth 100000 in
theorem deleteR_abo (J : List Re → World → Prop) (S : Nat → Prop) (base : Nat) (v : Value) (l : List Re) (c1 : Value) (p : Re → Bool) (w : World) (hl : l.length ≤ 1000) (hB : base ≤ w.heap.size) (hown : Own w base 52 5 v l.length (l.flatMap reC)) (hS : ∀ g, blk v = some g → ¬ S g) (h0 : J [] w)
    (hJ : ∀ pre W W', J pre W → Fr (fun k => blk v = some k) W W' → J pre W') (hp : PredR_abo J S c1 p) :
    Calls Try.prog 98 #[v, .func (.func 77) #[] #[c1]] w (DelR_abo J S base v l p w) := by
  obtain ⟨A, cap, hv⟩ := hown.slice_
  obtain ⟨n, hn⟩ : ∃ n, l.length = n := ⟨_, rfl⟩
  have HO := Lib.hid hown
  have HN := Lib.hid hn
  have HP := Lib.hid hp
  have HJS := Lib.hid hJ
  have HS := Lib.hid hS
  have H0 := Lib.hid h0
  rw [hn] at hv hl
  subst hv
  clear hown hn hp hS h0 hJ
  go_enter Try.func98, Try.ntmps98
  go_wp2_with fail
  refine (indexR_abo J S base _ l c1 p w (by rw [HN.out]; exact hl) HO.out HS.out H0.out HP.out).mono ?_
  rintro e w1 ⟨hcase, hf1⟩
  have HO1 := Lib.hid (HO.out.fr hf1 HS.out)
  have HF1 := Lib.hid (hf1.weak (T := fun q => blk (.slice A n cap) = some q ∨ S q) (fun _ h => .inl (.inr h)))
  have hs1 := hf1.size
  clear hf1
  rcases hcase with ⟨k, hk, hpk, hpj, hj1, rfl⟩ | ⟨hall, hj1, rfl⟩
  · have HJ1 := Lib.hid hj1
    rw [HN.out] at hk
    have HF := Lib.hid (filtR_first_abo (by rw [HN.out]; exact hk) hpk hpj)
    clear hpk hpj hj1
    have hO1 := HO1.out
    rw [HN.out] at hO1
    obtain ⟨g, off, cap', hv', hnc, hcm, hbg, hgl, hbk⟩ := hO1.form (by omega)
    injection hv' with hA _ hcc
    subst hA hcc
    have HO1n := Lib.hid hO1
    have hk1 : ¬ (k : Int) = -1 := by omega
    have hk1' : ((k : Int) == -1) = false := by simp
    have hcap0 : 0 < cap := by omega
    have hcap63 : cap ≤ 9223372036854775807 := by unfold maxLen at hcm; omega
    have HBK := Lib.hid hbk
    clear hO1 hbk hcm
    go_wp2_with fail
    go_loopw [5, 6] (fun s5 s6 wr => ∃ (i j : Nat) (ys : List Re), s5 = .int .i64 i ∧ s6 = .int .i64 j ∧ i < j ∧ j ≤ n ∧ ys.length = n ∧ ys.take i = (l.take j).filter (fun z => !p z) ∧ ys.drop j = l.drop j ∧ Own wr base 52 5 (.slice (some ⟨g, off, none⟩) n cap) n (ys.flatMap reC) ∧ J (l.take j) wr ∧ Fr (fun q => blk (.slice (some ⟨g, off, none⟩) n cap) = some q ∨ S q) w wr) (fun _ s6 _ => n - (intOf s6).toNat)
    case atStart => exact ⟨k, k + 1, l, rfl, by go_num, by omega, by omega, HN.out, HF.out.symm, rfl, HO1n.out, HJ1.out, HF1.out⟩
    case round =>
      obtain ⟨i, j, ys, rfl, rfl, hij, hjn, hyl, hyt, hyd, hown, hjj, hfr⟩ := hrel
      have HYL := Lib.hid hyl
      have HYT := Lib.hid hyt
      have HYD := Lib.hid hyd
      have HOR := Lib.hid hown
      have HJR := Lib.hid hjj
      have HBL := Lib.hid hfr
      have hsr := hfr.size
      clear hyl hyt hyd hown hjj hfr
      by_cases hlt : j < n
      · have hltI : (j : Int) < (n : Int) := by omega
        obtain ⟨c0, c1', c2, c3, c4⟩ := rd_re HOR.out.rd j (by rw [HYL.out]; exact hlt)
        have hyj : at_ ys j = at_ l j := by
          have h1 := drop_at (l := ys) (i := j) (by rw [HYL.out]; exact hlt)
          have h2 := drop_at (l := l) (i := j) (by rw [HN.out]; exact hlt)
          rw [HYD.out, h2] at h1
          exact (List.cons.inj h1).1.symm
        have hydS : ys.drop (j + 1) = l.drop (j + 1) := by
          have := HYD.out
          have h3 : (ys.drop j).drop 1 = (l.drop j).drop 1 := by rw [this]
          rw [List.drop_drop, List.drop_drop] at h3
          exact h3
        have htk := take_at (l := l) (i := j) (by rw [HN.out]; exact hlt)
        rw [hyj] at c0 c1' c2 c3 c4
        obtain ⟨x, hx⟩ : ∃ x, at_ l j = x := ⟨_, rfl⟩
        rw [hx] at c0 c1' c2 c3 c4 htk
        have HTK := Lib.hid htk
        have HYS := Lib.hid hydS
        have CP := fun W (hb : Below wr.heap.size wr W) => HP.out x (l.take j) wr W (by rw [List.length_take]; omega) HJR.out hb
        rw [← htk] at CP
        have HCP := Lib.hid CP
        obtain ⟨x0, x1, x2, x3, x4⟩ := x
        simp only at c0 c1' c2 c3 c4
        clear hyj hydS htk hx CP
        go_wp2_with fail
        clear c0 c1' c2 c3 c4
        have hal := below_one wr (.cells #[.int .i64 x0, .int .i64 x1, .int .u32 x2, .bool x3, .bool x4] 52)
        have hbx := Bx.new wr 52 [.int .i64 x0, .int .i64 x1, .int .u32 x2, .bool x3, .bool x4]
        change Bx (wr.alloc (.cells #[.int .i64 x0, .int .i64 x1, .int .u32 x2, .bool x3, .bool x4] 52)) _ _ _ at hbx
        have ho1 := HOR.out.alloc (.cells #[.int .i64 x0, .int .i64 x1, .int .u32 x2, .bool x3, .bool x4] 52)
        have hf1 := HBL.out.thenAlloc (.cells #[.int .i64 x0, .int .i64 x1, .int .u32 x2, .bool x3, .bool x4] 52)
        have hbl1 := hbx.lt
        generalize (wr.alloc (.cells #[.int .i64 x0, .int .i64 x1, .int .u32 x2, .bool x3, .bool x4] 52)) = w2 at *
        refine (HCP.out w2 hal).mono ?_
        rintro e w3 ⟨rfl, hj3, hf3, hk3⟩
        have HJ3 := Lib.hid hj3
        have hx3 : Bx w3 wr.heap.size 52 [.int .i64 x0, .int .i64 x1, .int .u32 x2, .bool x3, .bool x4] := (hk3 wr.heap.size (Nat.le_refl _) hbl1).trans hbx
        have HO3 := Lib.hid (ho1.fr hf3 HS.out)
        have HF3 := Lib.hid (hf1.trans hf3 (fun _ h => .inl (.inr h)))
        obtain ⟨q0, q1, q2, q3, q4⟩ := hx3.five
        obtain ⟨bb, hbb⟩ : ∃ b, wr.heap.size = b := ⟨_, rfl⟩
        rw [hbb] at q0 q1 q2 q3 q4 ⊢
        obtain ⟨px, hpx⟩ : ∃ b, p (x0, x1, x2, x3, x4) = b := ⟨_, rfl⟩
        rw [hpx]
        have hft : (l.take (j + 1)).filter (fun z => !p z) = (l.take j).filter (fun z => !p z) ++ (if px then [] else [(x0, x1, x2, x3, x4)]) := by
          rw [HTK.out, List.filter_append]
          congr 1
          cases px <;> simp [hpx]
        have HFT := Lib.hid hft
        clear hal hbx ho1 hf1 hj3 hf3 hk3 hx3 hpx hft hbb hbl1 HCP HOR HBL
        cases px with
        | true =>
          go_wp2_with fail
          go_roundw
          case rel => exact ⟨i, j + 1, ys, rfl, by go_num, by omega, by omega, HYL.out, by have e1 := HFT.out; simp only [if_true, List.append_nil] at e1; rw [e1]; exact HYT.out, HYS.out, HO3.out, HJ3.out, HF3.out⟩
          case measure => simp [intOf]; omega
        | false =>
          have hiI : (i : Int) < (n : Int) := by omega
          go_wp2_with (with_reducible refine wpList_store_own rfl 52 _ _ rfl HO3.out (i * 5) #[.int .i64 x0, .int .i64 x1, .int .u32 x2, .bool x3, .bool x4] rfl rfl ?h1 hcap0 ?h2 ?h3 ?h4)
          case h1 => show i * 5 + 5 ≤ n * 5; omega
          case h2 => kernel_rfl
          case h3 => simp [Value.oneCell']
          case h4 =>
            intro w4 ho4 hf4
            have h5 : setL (ys.flatMap reC) (i * 5) [.int .i64 x0, .int .i64 x1, .int .u32 x2, .bool x3, .bool x4] = (ys.set i (x0, x1, x2, x3, x4)).flatMap reC := flat_setL reC 5 reC_len (by omega) ys i (x0, x1, x2, x3, x4) (by rw [HYL.out]; omega)
            have ho5 : Own w4 base 52 5 (.slice (some ⟨g, off, none⟩) n cap) n ((ys.set i (x0, x1, x2, x3, x4)).flatMap reC) := by rw [← h5]; exact ho4
            have HO5 := Lib.hid ho5
            have hfv : Fr (fun q => blk (.slice (some ⟨g, off, none⟩) n cap) = some q) w3 w4 := hf4.weak (fun q hq => .inl (by have e' : q = g := hq; rw [e']; exact HBK.out))
            have HJ5 := Lib.hid (HJS.out _ _ _ HJ3.out hfv)
            have HF5 := Lib.hid (HF3.out.trans hfv (fun _ h => .inl (.inl h)))
            clear ho4 hf4 h5 ho5 hfv
            go_wp2_with fail
            go_roundw
            case rel =>
              refine ⟨i + 1, j + 1, ys.set i (x0, x1, x2, x3, x4), by go_num, by go_num, by omega, by omega, by rw [List.length_set]; exact HYL.out, ?_, ?_, HO5.out, HJ5.out, HF5.out⟩
              · have e1 := HFT.out
                simp only [Bool.false_eq_true, if_false] at e1
                rw [e1, ← HYT.out, List.take_succ_eq_append_getElem (by rw [List.length_set, HYL.out]; omega), List.getElem_set_self, List.take_set_of_le (Nat.le_refl _)]
              · rw [List.drop_set, if_pos (by omega)]
                exact HYS.out
            case measure => simp [intOf]; omega
      · obtain rfl : j = n := by omega
        have hci : (cap == i) = false := by simpa using (by omega : ¬ cap = i)
        have hiI : (i : Int) ≤ (j : Int) := by omega
        go_wp2_with (with_reducible refine wpList_clear_own (j := i * 5) (oj := off + i * 5) (m := j - i) (c := cap - i) rfl (.tmp 38) 41 rfl (.agg #[.int .i64 0, .int .i64 0, .int .u32 0, .bool false, .bool false]) Try.underlying41 (fun w => by kernel_rfl) rfl (by simp [Value.cells, Value.oneCell']) HOR.out hcap0 ?c1 rfl ?c2 ?c3 ?c4)
        case c1 => rfl
        case c2 => omega
        case c3 => show i * 5 + (j - i) * 5 ≤ j * 5; omega
        case c4 =>
          intro w3 ho3 hf3
          have hfv : Fr (fun q => blk (.slice (some ⟨g, off, none⟩) j cap) = some q) wr w3 := hf3.weak (fun q hq => .inl (by have e' : q = g := hq; rw [e']; exact HBK.out))
          have HO3 := Lib.hid ho3
          have HB3 := Lib.hid (HBL.out.trans hfv (fun _ h => .inl (.inl h)))
          have HJ3 := Lib.hid (HJS.out _ _ _ HJR.out hfv)
          clear ho3 hf3 hfv
          have hicap : i ≤ cap := by omega
          go_wp2_with fail
          go_ret
          have hlen : (l.filter (fun z => !p z)).length = i := by
            have h1 := congrArg List.length HYT.out
            rw [← HN.out, List.take_length, List.length_take, HYL.out] at h1
            omega
          refine ⟨_, rfl, ?_, HB3.out, fun q hq => (blk_len' _ _ _ _).trans hq, by have := HJ3.out; rw [← HN.out, List.take_length] at this; exact this⟩
          have h4 := HO3.out.cutEnd (k := i) (by omega)
          have h5 : ∀ cs, (setL (ys.flatMap reC) (i * 5) cs).take (i * 5) = (l.filter (fun z => !p z)).flatMap reC := fun cs => by
            have h6 := HYT.out
            rw [← HN.out, List.take_length] at h6
            rw [← h6, ← flat_take reC 5 reC_len]
            apply List.ext_getElem?
            intro q
            rw [List.getElem?_take, List.getElem?_take]
            by_cases hq : q < i * 5
            · rw [if_pos hq, if_pos hq, setL_get, if_neg (fun h => absurd h.1 (by omega))]
            · rw [if_neg hq, if_neg hq]
          rw [h5 _] at h4
          rw [hlen]
          exact h4
  · have HF := Lib.hid (filtR_none_abo hall)
    have HJ1 := Lib.hid hj1
    clear hall hj1
    go_wp2_with fail
    go_ret
    refine ⟨_, rfl, ?_, HF1.out, fun q hq => hq, HJ1.out⟩
    rw [HF.out]
    exact HO1.out

end Go.Proofs.Ytncgpojjibojlaa

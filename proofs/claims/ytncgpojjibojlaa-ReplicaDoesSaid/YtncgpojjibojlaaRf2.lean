/- sutureref10.Fair, at, drop: their contracts. -/
import Derived.Test.YtncgpojjibojlaaRf1
import Derived.Test.YtncgpojjibojlaaReL
namespace Go.Proofs.Ytncgpojjibojlaa
open Go Go.RowKit

set_option maxHeartbeats 1000000 in
theorem rfair_any (v : Value) (l : List Re) (w : World) (hl : l.length ≤ 1000) (hR : Rd w 5 v l.length (l.flatMap reC)) :
    Calls Try.prog 85 #[v] w (FreshR (fairR l) w) := by
  have HR := Lib.hid hR
  obtain ⟨b, hb⟩ : ∃ b, mayR l = b := ⟨_, rfl⟩
  have HM := Lib.hid hb
  clear hR
  go_enter Try.func85, Try.ntmps85
  go_wp2_with fail
  refine (rmay_any v l w HR.out).mono ?_
  rintro e w1 ⟨rfl, hb1⟩
  rw [hb]
  have HB1 := Lib.hid hb1
  have hs1 := hb1.size
  clear hb hb1
  cases b with
  | false =>
    go_wp2_with fail
    go_ret
    refine ⟨_, rfl, ?_, HB1.out⟩
    rw [fairR, HM.out]
    exact Own.nil_ _ _ _ _
  | true =>
    go_wp2_with (at_builtin; refine wpList_app_re rfl (.const (.slice none 0 0)) (.tmp 8) rfl w.heap.size (.slice none 0 0) [] rfl (Own.nil_ _ _ _ _) v l rfl (HR.out.below HB1.out (Nat.le_refl _)) (by simp; omega) hs1 ?_; intro v2 w2 hown2 _ _ hb2; have HO2 := Lib.hid hown2; have HB2 := Lib.hid hb2; clear hown2 hb2)
    go_ret
    exact ⟨_, rfl, by rw [fairR_of HM.out]; simpa using HO2.out, HB1.out.trans HB2.out⟩

theorem cut_at {l : List Re} (h : Ris kR l) {k : Int} {i : Nat} (hi : i < l.length) (hk : kR (at_ l i) = k) : Cut kR l k i ∧ isAt kR l k i = true := by
  refine ⟨⟨by omega, fun j hj => ?_, fun j hj hjl => ?_⟩, decide_eq_true ⟨hi, hk⟩⟩
  · have := h.lt hj hi
    omega
  · rcases Nat.eq_or_lt_of_le hj with rfl | h2
    · omega
    · have := h.lt h2 hjl
      omega

def AtR (l : List Re) (c : Int) (t : Bool) (w : World) (e : Ending) (w' : World) : Prop := w = w' ∧ ((∃ i : Nat, e = .returned (.int .i64 i) ∧ i < l.length ∧ findR l c t = some (at_ l i) ∧ (at_ l i).1 = c ∧ (at_ l i).2.2.2.1 = t ∧ Cut kR l (2 * c + flI t) i ∧ isAt kR l (2 * c + flI t) i = true) ∨ (e = .returned (.int .i64 (-1)) ∧ findR l c t = none))

set_option maxHeartbeats 2000000 in
theorem rat_any (v : Value) (l : List Re) (c : Int) (t : Bool) (w : World) (hris : Ris kR l) (hR : Rd w 5 v l.length (l.flatMap reC)) :
    Calls Try.prog 87 #[v, .int .i64 c, .bool t] w (AtR l c t w) := by
  obtain ⟨A, cap, hv, hcap, hnc⟩ := hR.shape
  subst hv
  obtain ⟨n, hn⟩ : ∃ n, l.length = n := ⟨_, rfl⟩
  have HR := Lib.hid hR
  have HN := Lib.hid hn
  have HI := Lib.hid hris
  rw [hn] at hnc ⊢
  clear hR hn hris
  have hnm : n ≤ 9223372036854775807 := by omega
  go_enter Try.func87, Try.ntmps87
  go_wp2_with fail
  go_loopw [7] (fun s7 wr => ∃ (k : Nat), s7 = .int .i64 k ∧ k ≤ n ∧ (∀ j, j < k → ¬ ((at_ l j).1 = c ∧ (at_ l j).2.2.2.1 = t)) ∧ wr = w) (fun s7 _ => n - (intOf s7).toNat)
  case atStart => exact ⟨0, rfl, by omega, fun j hj => absurd hj (by omega), rfl⟩
  case round =>
    obtain ⟨k, rfl, hk, hall, rfl⟩ := hrel
    have HAl := Lib.hid hall
    clear hall
    by_cases hlt : k < n
    · have hltI : (k : Int) < (n : Int) := by omega
      have hR1 := HR.out
      rw [HN.out] at hR1
      obtain ⟨b, off, hA, hbl⟩ := hR1.addr (by omega)
      subst hA
      obtain ⟨c0, c1, c2, c3, c4⟩ := rd_re hR1 k (by rw [HN.out]; exact hlt)
      obtain ⟨x, hx⟩ : ∃ x, at_ l k = x := ⟨_, rfl⟩
      rw [hx] at c0 c1 c2 c3 c4
      have HX := Lib.hid hx
      clear hx hR1
      obtain ⟨x0, x1, x2, x3, x4⟩ := x
      simp only at c0 c1 c2 c3 c4
      by_cases h0 : x0 = c
      · subst h0
        by_cases h3 : x3 = t
        · subst h3
          have HF : Hid (AtR l x0 x3 wr (.returned (.int .i64 k)) wr) := by
            refine ⟨rfl, .inl ⟨k, rfl, by rw [HN.out]; exact hlt, ?_, by rw [HX.out], by rw [HX.out], ?_⟩⟩
            · exact (findR_some HI.out).2 ⟨at_mem (by rw [HN.out]; exact hlt), by rw [HX.out], by rw [HX.out]⟩
            · exact cut_at HI.out (by rw [HN.out]; exact hlt) (kR_eq.2 ⟨by rw [HX.out], by rw [HX.out]⟩)
          have he : (x3 == x3) = true := by cases x3 <;> rfl
          go_wp2_with fail
          go_ret
          exact HF.out
        · have hf : (x3 == t) = false := by simpa using h3
          have HF := Lib.hid h3
          clear h3
          go_wp2_with fail
          go_roundw
          case rel => exact ⟨k + 1, by go_num, by omega, fun j hj => by
            by_cases e : j = k
            · subst e
              rw [HX.out]
              exact fun h => HF.out h.2
            · exact HAl.out j (by omega), by first | rfl | trivial⟩
          case measure => simp [intOf]; omega
      · have hf : (x0 == c) = false := by simpa using h0
        have HF := Lib.hid h0
        go_wp2_with fail
        go_roundw
        case rel => exact ⟨k + 1, by go_num, by omega, fun j hj => by
          by_cases e : j = k
          · subst e
            rw [HX.out]
            exact fun h => HF.out h.1
          · exact HAl.out j (by omega), by first | rfl | trivial⟩
        case measure => simp [intOf]; omega
    · obtain rfl : k = n := by omega
      have HF : Hid (findR l c t = none) := findR_none.2 fun x hx hh => by
        obtain ⟨j, hj, rfl⟩ := mem_at hx
        exact HAl.out j (by rw [HN.out] at hj; exact hj) hh
      go_wp2_with fail
      go_ret
      exact ⟨rfl, .inr ⟨rfl, HF.out⟩⟩

set_option maxHeartbeats 2000000 in
set_option maxRecDepth 100000 in
theorem rdrop_any (v : Value) (l : List Re) (i : Nat) (w : World) (hl : l.length ≤ 1000) (hi : i < l.length) (hR : Rd w 5 v l.length (l.flatMap reC)) :
    Calls Try.prog 100 #[v, .int .i64 i] w (FreshR (l.take i ++ l.drop (i + 1)) w) := by
  obtain ⟨A, cap, hv, hcap, hnc⟩ := hR.shape
  subst hv
  obtain ⟨b, off, hA, hbl⟩ := hR.addr (by omega)
  subst hA
  obtain ⟨n, hn⟩ : ∃ n, l.length = n := ⟨_, rfl⟩
  have HN := Lib.hid hn
  have h1 := hR.cutEnd (k := i) (by omega)
  rw [flat_take reC 5 reC_len] at h1
  obtain ⟨AA, hAA⟩ : ∃ AA, (if cap = i + 1 then some (⟨b, off, none⟩ : Addr) else some ⟨b, off + (i + 1) * 5, none⟩) = AA := ⟨_, rfl⟩
  have h2 := hR.cutHead (k := i + 1) (by omega) AA (fun h => by rw [← hAA, if_neg (by omega)])
  rw [flat_drop reC 5 reC_len] at h2
  have e1 : (l.take i).length = i := by rw [List.length_take]; omega
  have e2 : (l.drop (i + 1)).length = n - (i + 1) := by rw [List.length_drop, hn]
  rw [hn] at h2 hi hnc hl ⊢
  have H1 : Hid (Rd w 5 (.slice (some ⟨b, off, none⟩) i cap) (l.take i).length ((l.take i).flatMap reC)) := by rw [e1]; exact h1
  have H2 : Hid (Rd w 5 (.slice AA (n - (i + 1)) (cap - (i + 1))) (l.drop (i + 1)).length ((l.drop (i + 1)).flatMap reC)) := by rw [e2]; exact h2
  have HE1 := Lib.hid e1
  have HE2 := Lib.hid e2
  have HAA := Lib.hid hAA
  clear h1 h2 hAA hR hn e1 e2
  have hiI : (i : Int) < (n : Int) := by omega
  have hi1 : (i : Int) + 1 ≤ (n : Int) := by omega
  have hi0 : (0 : Int) ≤ (i : Int) + 1 := by omega
  have hic : (i : Int) ≤ (cap : Int) := by omega
  have hto : ((i : Int) + 1).toNat = i + 1 := by omega
  have hnC : (n : Int) ≤ (cap : Int) := by omega
  by_cases hc : cap = i + 1
  · subst hc
    have H3 : Hid (Rd w 5 (.slice (some ⟨b, off, none⟩) 0 0) (l.drop (i + 1)).length ((l.drop (i + 1)).flatMap reC)) := by
      have := H2.out
      rw [← HAA.out, if_pos rfl, Nat.sub_self, show n - (i + 1) = 0 by omega] at this
      exact this
    clear HAA H2
    go_enter Try.func100, Try.ntmps100
    go_wp2_with (first | (at_builtin; refine wpList_app_re rfl (.const (.slice none 0 0)) (.tmp 8) rfl w.heap.size (.slice none 0 0) [] rfl (Own.nil_ _ _ _ _) (.slice (some ⟨b, off, none⟩) i (i + 1)) (l.take i) rfl H1.out (by have := HE1.out; have := HN.out; simp; omega) (Nat.le_refl _) ?_; intro v2 w2 hown2 _ _ hb2; have HO2 := Lib.hid hown2; have HB2 := Lib.hid hb2; have hs2 := hb2.size; clear hown2 hb2) | (at_builtin; refine wpList_app_re rfl (.tmp 10) (.tmp 14) rfl w.heap.size v2 ([] ++ l.take i) rfl HO2.out (.slice (some ⟨b, off, none⟩) 0 0) (l.drop (i + 1)) rfl (H3.out.below HB2.out (Nat.le_refl _)) (by have := HE1.out; have := HE2.out; have := HN.out; simp; omega) hs2 ?_; intro v3 w3 hown3 _ _ hb3; have HO3 := Lib.hid hown3; have HB3 := Lib.hid hb3; clear hown3 hb3))
    go_ret
    exact ⟨_, rfl, by simpa using HO3.out, HB2.out.trans HB3.out⟩
  · skip
    have H3 : Hid (Rd w 5 (.slice (some ⟨b, off + (i + 1) * 5, none⟩) (n - (i + 1)) (cap - (i + 1))) (l.drop (i + 1)).length ((l.drop (i + 1)).flatMap reC)) := by
      have := H2.out
      rw [← HAA.out, if_neg hc] at this
      exact this
    clear HAA H2
    go_enter Try.func100, Try.ntmps100
    go_wp2_with (first | (at_builtin; refine wpList_app_re rfl (.const (.slice none 0 0)) (.tmp 8) rfl w.heap.size (.slice none 0 0) [] rfl (Own.nil_ _ _ _ _) (.slice (some ⟨b, off, none⟩) i cap) (l.take i) rfl H1.out (by have := HE1.out; have := HN.out; simp; omega) (Nat.le_refl _) ?_; intro v2 w2 hown2 _ _ hb2; have HO2 := Lib.hid hown2; have HB2 := Lib.hid hb2; have hs2 := hb2.size; clear hown2 hb2) | (at_builtin; refine wpList_app_re rfl (.tmp 10) (.tmp 14) rfl w.heap.size v2 ([] ++ l.take i) rfl HO2.out (.slice (some ⟨b, off + (i + 1) * 5, none⟩) (n - (i + 1)) (cap - (i + 1))) (l.drop (i + 1)) rfl (H3.out.below HB2.out (Nat.le_refl _)) (by have := HE1.out; have := HE2.out; have := HN.out; simp; omega) hs2 ?_; intro v3 w3 hown3 _ _ hb3; have HO3 := Lib.hid hown3; have HB3 := Lib.hid hb3; clear hown3 hb3))
    go_ret
    exact ⟨_, rfl, by simpa using HO3.out, HB2.out.trans HB3.out⟩

end Go.Proofs.Ytncgpojjibojlaa

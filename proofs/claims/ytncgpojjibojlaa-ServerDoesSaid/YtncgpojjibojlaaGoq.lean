/- sutureref10.named, May: their contracts. -/
import Derived.Test.YtncgpojjibojlaaReNq
import Derived.Test.YtncgpojjibojlaaGkq
import Derived.Test.YtncgpojjibojlaaReLq
namespace Go.Proofs.Ytncgpojjibojlaa
open Go Go.RowKit

theorem rnamed_any (c v : Int) (w : World) :
    Calls Try.prog 86 #[.int .i64 c, .int .i64 v] w fun e w' => e = .returned (.bool (namedB c v)) ∧ w = w' := by
  by_cases h1 : c ≥ 1
  · by_cases h2 : c ≤ 1048576
    · by_cases h3 : v ≥ 1
      · by_cases h4 : v ≤ 1073741824
        · go_enter Try.func86, Try.ntmps86
          go_wp2
          go_ret
          exact ⟨by rw [show namedB c v = true from decide_eq_true ⟨⟨h1, h2⟩, h3, h4⟩]; rfl, rfl⟩
        · go_enter Try.func86, Try.ntmps86
          go_wp2
          go_ret
          exact ⟨by rw [show namedB c v = false from decide_eq_false (fun h => by omega)]; rfl, rfl⟩
      · go_enter Try.func86, Try.ntmps86
        go_wp2
        go_ret
        exact ⟨by rw [show namedB c v = false from decide_eq_false (fun h => by omega)]; rfl, rfl⟩
    · go_enter Try.func86, Try.ntmps86
      go_wp2
      go_ret
      exact ⟨by rw [show namedB c v = false from decide_eq_false (fun h => by omega)]; rfl, rfl⟩
  · go_enter Try.func86, Try.ntmps86
    go_wp2
    go_ret
    exact ⟨by rw [show namedB c v = false from decide_eq_false (fun h => by omega)]; rfl, rfl⟩

theorem okP_ref (y0 y1 y2 : Int) (y3 y4 : Bool) (x0 x1 x2 : Int) (x3 x4 : Bool) : okP (y0, y1, y2, y3, y4) (x0, x1, x2, x3, x4) ↔ ¬ (x0 < y0 ∨ (x0 = y0 ∧ (y3 = true ∨ x3 = false ∨ x1 ≤ y1))) := by
  unfold okP kR
  have h1 := flI_le y3
  have h2 := flI_le x3
  simp only
  cases y3 <;> cases x3 <;> simp [flI] <;> omega

set_option maxHeartbeats 4000000 in
set_option maxRecDepth 100000 in
theorem rmay_any (v : Value) (l : List Re) (w : World) (hR : Rd w 5 v l.length (l.flatMap reC)) :
    Calls Try.prog 43 #[v] w fun e w' => e = .returned (.bool (mayR l)) ∧ Below w.heap.size w w' := by
  obtain ⟨A, cap, hv, hcap, hnc⟩ := hR.shape
  subst hv
  obtain ⟨n, hn⟩ : ∃ n, l.length = n := ⟨_, rfl⟩
  have HR := Lib.hid hR
  have HN := Lib.hid hn
  rw [hn] at hnc ⊢
  clear hR hn
  have hnm : n ≤ 9223372036854775807 := by omega
  go_enter Try.func43, Try.ntmps43
  go_wp2_with fail
  go_loopw [3] (fun s3 wr => ∃ (k : Nat), s3 = .int .i64 k ∧ k ≤ n ∧ (∀ j, j < k → okR (at_ l j) = true ∧ (0 < j → okP (at_ l (j - 1)) (at_ l j))) ∧ Below w.heap.size w wr) (fun s3 _ => n - (intOf s3).toNat)
  case atStart => exact ⟨0, rfl, by omega, fun j hj => absurd hj (by omega), Below.refl _ _⟩
  case round =>
    obtain ⟨k, rfl, hk, hall, hbel⟩ := hrel
    have HAl := Lib.hid hall
    have HB := Lib.hid hbel
    clear hall hbel
    by_cases hlt : k < n
    · have hltI : (k : Int) < (n : Int) := by omega
      have hR1 := HR.out.below HB.out (Nat.le_refl _)
      rw [HN.out] at hR1
      obtain ⟨b, off, hA, hbl⟩ := hR1.addr (by omega)
      subst hA
      have HR1 := Lib.hid hR1
      obtain ⟨c0, c1, c2, c3, c4⟩ := rd_re hR1 k (by rw [HN.out]; exact hlt)
      obtain ⟨x, hx⟩ : ∃ x, at_ l k = x := ⟨_, rfl⟩
      rw [hx] at c0 c1 c2 c3 c4
      have HX := Lib.hid hx
      clear hx hR1
      obtain ⟨x0, x1, x2, x3, x4⟩ := x
      simp only at c0 c1 c2 c3 c4
      go_wp2_with fail
      have hal := below_one wr (.cells #[.int .i64 x0, .int .i64 x1, .int .u32 x2, .bool x3, .bool x4] 52)
      have hbx := Bx.new wr 52 [.int .i64 x0, .int .i64 x1, .int .u32 x2, .bool x3, .bool x4]
      change Bx (wr.alloc (.cells #[.int .i64 x0, .int .i64 x1, .int .u32 x2, .bool x3, .bool x4] 52)) _ _ _ at hbx
      generalize (wr.alloc (.cells #[.int .i64 x0, .int .i64 x1, .int .u32 x2, .bool x3, .bool x4] 52)) = w1 at *
      obtain ⟨bb, hbb⟩ : ∃ b, wr.heap.size = b := ⟨_, rfl⟩
      rw [hbb] at hbx ⊢
      obtain ⟨q0, q1, q2, q3, q4⟩ := hbx.five
      have HB1 := Lib.hid (below_then HB.out hal)
      have HBX := Lib.hid hbx
      have HAL := Lib.hid hal
      clear hal hbx hbb c0 c1 c2 c3 c4
      refine (rnamed_any x0 x1 w1).mono ?_
      rintro e w2 ⟨rfl, rfl⟩
      obtain ⟨bn, hbn⟩ : ∃ b, namedB x0 x1 = b := ⟨_, rfl⟩
      rw [hbn]
      have HBN := Lib.hid hbn
      clear hbn
      have HBAD : Hid ((bn && !(x3 && x4)) = false → mayR l = false) := fun h => mayR_bad (k := k) (by rw [HN.out]; exact hlt) (fun hh => by
        have h1 := hh.1
        rw [HX.out] at h1
        unfold okR at h1
        simp only at h1
        rw [HBN.out, h] at h1
        cases h1)
      have HOK : Hid ((bn && !(x3 && x4)) = true → okR (at_ l k) = true) := fun h => by
        rw [HX.out]
        unfold okR
        simp only
        rw [HBN.out, h]
      cases bn with
      | false =>
        go_wp2_with fail
        go_ret
        exact ⟨by rw [HBAD.out rfl]; first | rfl | trivial, HB1.out⟩
      | true =>
        by_cases hbb : x3 = true ∧ x4 = true
        · obtain ⟨rfl, rfl⟩ := hbb
          go_wp2_with fail
          go_ret
          exact ⟨by rw [HBAD.out rfl]; first | rfl | trivial, HB1.out⟩
        have HOKK := Lib.hid (HOK.out (by cases x3 <;> cases x4 <;> simp at hbb ⊢))
        have hcase : x3 = false ∨ (x3 = true ∧ x4 = false) := by cases x3 <;> cases x4 <;> simp at hbb ⊢
        clear hbb HBAD HOK
        by_cases hk0 : k = 0
        · subst hk0
          rcases hcase with rfl | ⟨rfl, rfl⟩
          all_goals
            go_wp2_with fail
            go_roundw
            case rel => exact ⟨0 + 1, by go_num, by omega, fun j hj => by
              obtain rfl : j = 0 := by omega
              exact ⟨HOKK.out, fun h => absurd h (by omega)⟩, HB1.out⟩
            case measure => simp [intOf]; omega
        · obtain ⟨j, rfl⟩ : ∃ j, k = j + 1 := ⟨k - 1, by omega⟩
          have hk0I : ¬ (((j + 1 : Nat) : Int) = 0) := by omega
          have hjn : (j : Int) < (n : Int) := by omega
          obtain ⟨z0, z1, z2, z3, z4⟩ := rd_re (HR1.out.below HAL.out (Nat.le_refl _)) j (by rw [HN.out]; omega)
          obtain ⟨y, hy⟩ : ∃ y, at_ l j = y := ⟨_, rfl⟩
          rw [hy] at z0 z1 z2 z3 z4
          have HY := Lib.hid hy
          clear hy
          obtain ⟨y0, y1, y2, y3, y4⟩ := y
          simp only at z0 z1 z2 z3 z4
          have hal2 := below_one w1 (.cells #[.int .i64 y0, .int .i64 y1, .int .u32 y2, .bool y3, .bool y4] 52)
          have hbx2 := Bx.new w1 52 [.int .i64 y0, .int .i64 y1, .int .u32 y2, .bool y3, .bool y4]
          change Bx (w1.alloc (.cells #[.int .i64 y0, .int .i64 y1, .int .u32 y2, .bool y3, .bool y4] 52)) _ _ _ at hbx2
          obtain ⟨r0, r1, r2, r3, r4⟩ := hbx2.five
          obtain ⟨s0, s1, s2, s3, s4⟩ := (HBX.out.below' hal2).five
          have HB2 := Lib.hid (below_then HB1.out hal2)
          have HBAD : Hid (¬ okP (y0, y1, y2, y3, y4) (x0, x1, x2, x3, x4) → mayR l = false) := fun h => mayR_bad (k := j + 1) (by rw [HN.out]; exact hlt) (fun hh => h (by
            have h1 := hh.2 (by omega)
            rw [HX.out, Nat.add_sub_cancel, HY.out] at h1
            exact h1))
          have HGOOD : Hid (okP (y0, y1, y2, y3, y4) (x0, x1, x2, x3, x4) → ∀ i, i < j + 1 + 1 → okR (at_ l i) = true ∧ (0 < i → okP (at_ l (i - 1)) (at_ l i))) := fun h i hi => by
            by_cases e : i = j + 1
            · subst e
              refine ⟨HOKK.out, fun _ => ?_⟩
              rw [HX.out, Nat.add_sub_cancel, HY.out]
              exact h
            · exact HAl.out i (by omega)
          have HIF := Lib.hid (okP_ref y0 y1 y2 y3 y4 x0 x1 x2 x3 x4)
          clear hal2 hbx2
          by_cases h1 : x0 < y0
          · rcases hcase with rfl | ⟨rfl, rfl⟩
            all_goals
              have HF : Hid (mayR l = false) := HBAD.out (fun h => (okP_ref _ _ _ _ _ _ _ _ _ _).1 h (.inl h1))
              clear HIF HBAD HGOOD
              go_wp2_with fail
              go_ret
              exact ⟨by rw [HF.out]; first | rfl | trivial, HB2.out⟩
          by_cases h2 : x0 = y0
          · subst h2
            cases y3 with
            | true =>
              rcases hcase with rfl | ⟨rfl, rfl⟩
              all_goals
                have HF : Hid (mayR l = false) := HBAD.out (fun h => (okP_ref _ _ _ _ _ _ _ _ _ _).1 h (.inr ⟨rfl, .inl rfl⟩))
                clear HIF HBAD HGOOD
                go_wp2_with fail
                go_ret
                exact ⟨by rw [HF.out]; first | rfl | trivial, HB2.out⟩
            | false =>
              cases x3 with
              | false =>
                clear hcase
                all_goals
                  have HF : Hid (mayR l = false) := HBAD.out (fun h => (okP_ref _ _ _ _ _ _ _ _ _ _).1 h (.inr ⟨rfl, .inr (.inl rfl)⟩))
                  clear HIF HBAD HGOOD
                  go_wp2_with fail
                  go_ret
                  exact ⟨by rw [HF.out]; first | rfl | trivial, HB2.out⟩
              | true =>
                obtain rfl : x4 = false := by rcases hcase with h | h
                                              · cases h
                                              · exact h.2
                clear hcase
                by_cases h5 : x1 ≤ y1
                · skip
                  all_goals
                    have HF : Hid (mayR l = false) := HBAD.out (fun h => (okP_ref _ _ _ _ _ _ _ _ _ _).1 h (.inr ⟨rfl, .inr (.inr h5)⟩))
                    clear HIF HBAD HGOOD
                    go_wp2_with fail
                    go_ret
                    exact ⟨by rw [HF.out]; first | rfl | trivial, HB2.out⟩
                · skip
                  all_goals
                    have HG := Lib.hid (HGOOD.out ((okP_ref _ _ _ _ _ _ _ _ _ _).2 (fun h => by rcases h with h | ⟨_, h | h | h⟩ <;> first | omega | cases h)))
                    clear HIF HBAD HGOOD
                    go_wp2_with fail
                    go_roundw
                    case rel => exact ⟨j + 1 + 1, by go_num, by omega, HG.out, HB2.out⟩
                    case measure => simp [intOf]; omega
          · rcases hcase with rfl | ⟨rfl, rfl⟩
            all_goals
              have HG := Lib.hid (HGOOD.out ((okP_ref _ _ _ _ _ _ _ _ _ _).2 (fun h => by rcases h with h | ⟨h, _⟩ <;> omega)))
              clear HIF HBAD HGOOD
              go_wp2_with fail
              go_roundw
              case rel => exact ⟨j + 1 + 1, by go_num, by omega, HG.out, HB2.out⟩
              case measure => simp [intOf]; omega
    · obtain rfl : k = n := by omega
      go_wp2_with fail
      go_ret
      exact ⟨by rw [mayR_good (fun j hj => HAl.out j (by rw [HN.out] at hj; exact hj))]; first | rfl | trivial, HB.out⟩

end Go.Proofs.Ytncgpojjibojlaa

/- sutureref10.Fair, at, drop: their contracts. -/
namespace Go.Proofs.Ytncgpojjibojlaa
open Go Go.RowKit

set_option maxHeartbeats 1000000 in
theorem rfair_any (v : Value) (l : List Re) (w : World) (hl : l.length ≤ 1000) (hR : Rd w 5 v l.length (l.flatMap reC)) :
    Calls Try.prog 85 #[v] w (FreshR (fairR l) w) := by
  have HR := Lib.hid hR
  obtain ⟨b, hb⟩ : ∃ b, mayR l = b := ⟨_, rfl⟩
  have HM := Lib.hid hb
  clear hR
  go_enter Try.func85, Try.ntmps85
  go_wp2_with fail
  refine (rmay_any v l w HR.out).mono ?_
  rintro e w1 ⟨rfl, hb1⟩
  rw [hb]
  have HB1 := Lib.hid hb1
  have hs1 := hb1.size
  clear hb hb1
  cases b with
  | false =>
    go_wp2_with fail
    go_ret
    refine ⟨_, rfl, ?_, HB1.out⟩
    rw [fairR, HM.out]
    exact Own.nil_ _ _ _ _
  | true =>
    go_wp2_with (at_builtin; refine wpList_app_re rfl (.const (.slice none 0 0)) (.tmp 8) rfl w.heap.size (.slice none 0 0) [] rfl (Own.nil_ _ _ _ _) v l rfl (HR.out.below HB1.out (Nat.le_refl _)) (by simp; omega) hs1 ?_; intro v2 w2 hown2 _ _ hb2; have HO2 := Lib.hid hown2; have HB2 := Lib.hid hb2; clear hown2 hb2)
    go_ret
    exact ⟨_, rfl, by rw [fairR_of HM.out]; simpa using HO2.out, HB1.out.trans HB2.out⟩

theorem cut_at {l : List Re} (h : Ris kR l) {k : Int} {i : Nat} (hi : i < l.length) (hk : kR (at_ l i) = k) : Cut kR l k i ∧ isAt kR l k i = true := by
  refine ⟨⟨by omega, fun j hj => ?_, fun j hj hjl => ?_⟩, decide_eq_true ⟨hi, hk⟩⟩
  · have := h.lt hj hi
    omega
  · rcases Nat.eq_or_lt_of_le hj with rfl | h2
    · omega
    · have := h.lt h2 hjl
      omega

def AtR (l : List Re) (c : Int) (t : Bool) (w : World) (e : Ending) (w' : World) : Prop := w = w' ∧ ((∃ i : Nat, e = .returned (.int .i64 i) ∧ i < l.length ∧ findR l c t = some (at_ l i) ∧ (at_ l i).1 = c ∧ (at_ l i).2.2.2.1 = t ∧ Cut kR l (2 * c + flI t) i ∧ isAt kR l (2 * c + flI t) i = true) ∨ (e = .returned (.int .i64 (-1)) ∧ findR l c t = none))

set_option maxHeartbeats 2000000 in
theorem rat_any (v : Value) (l : List Re) (c : Int) (t : Bool) (w : World) (hris : Ris kR l) (hR : Rd w 5 v l.length (l.flatMap reC)) :
    Calls Try.prog 87 #[v, .int .i64 c, .bool t] w (AtR l c t w) := by
  obtain ⟨A, cap, hv, hcap, hnc⟩ := hR.shape
  subst hv
  obtain ⟨n, hn⟩ : ∃ n, l.length = n := ⟨_, rfl⟩
  have HR := Lib.hid hR
  have HN := Lib.hid hn
  have HI := Lib.hid hris
  rw [hn] at hnc ⊢
  clear hR hn hris
  have hnm : n ≤ 9223372036854775807 := by omega
  go_enter Try.func87, Try.ntmps87
  go_wp2_with fail
  go_loopw [7] (fun s7 wr => ∃ (k : Nat), s7 = .int .i64 k ∧ k ≤ n ∧ (∀ j, j < k → ¬ ((at_ l j).1 = c ∧ (at_ l j).2.2.2.1 = t)) ∧ wr = w) (fun s7 _ => n - (intOf s7).toNat)
  case atStart => exact ⟨0, rfl, by omega, fun j hj => absurd hj (by omega), rfl⟩
  case round =>
    obtain ⟨k, rfl, hk, hall, rfl⟩ := hrel
    have HAl := Lib.hid hall
    clear hall
    by_cases hlt : k < n
    · have hltI : (k : Int) < (n : Int) := by omega
      have hR1 := HR.out
      rw [HN.out] at hR1
      obtain ⟨b, off, hA, hbl⟩ := hR1.addr (by omega)
      subst hA
      obtain ⟨c0, c1, c2, c3, c4⟩ := rd_re hR1 k (by rw [HN.out]; exact hlt)
      obtain ⟨x, hx⟩ : ∃ x, at_ l k = x := ⟨_, rfl⟩
      rw [hx] at c0 c1 c2 c3 c4
      have HX := Lib.hid hx
      clear hx hR1
      obtain ⟨x0, x1, x2, x3, x4⟩ := x
      simp only at c0 c1 c2 c3 c4
      by_cases h0 : x0 = c
      · subst h0
        by_cases h3 : x3 = t
        · subst h3
          have HF : Hid (AtR l x0 x3 wr (.returned (.int .i64 k)) wr) := by
            refine ⟨rfl, .inl ⟨k, rfl, by rw [HN.out]; exact hlt, ?_, by rw [HX.out], by rw [HX.out], ?_⟩⟩
            · exact (findR_some HI.out).2 ⟨at_mem (by rw [HN.out]; exact hlt), by rw [HX.out], by rw [HX.out]⟩
            · exact cut_at HI.out (by rw [HN.out]; exact hlt) (kR_eq.2 ⟨by rw [HX.out], by rw [HX.out]⟩)
          have he : (x3 == x3) = true := by cases x3 <;> rfl
          go_wp2_with fail
          go_ret
          exact HF.out
        · have hf : (x3 == t) = false := by simpa using h3
          have HF := Lib.hid h3
          clear h3
          go_wp2_with fail
          go_roundw
          case rel => exact ⟨k + 1, by go_num, by omega, fun j hj => by
            by_cases e : j = k
            · subst e
              rw [HX.out]
              exact fun h => HF.out h.2
            · exact HAl.out j (by omega), by first | rfl | trivial⟩
          case measure => simp [intOf]; omega
      · have hf : (x0 == c) = false := by simpa using h0
        have HF := Lib.hid h0
        go_wp2_with fail
        go_roundw
        case rel => exact ⟨k + 1, by go_num, by omega, fun j hj => by
          by_cases e : j = k
          · subst e
            rw [HX.out]
            exact fun h => HF.out h.1
          · exact HAl.out j (by omega), by first | rfl | trivial⟩
        case measure => simp [intOf]; omega
    · obtain rfl : k = n := by omega
      have HF : Hid (findR l c t = none) := findR_none.2 fun x hx hh => by
        obtain ⟨j, hj, rfl⟩ := mem_at hx
        exact HAl.out j (by rw [HN.out] at hj; exact hj) hh
      go_wp2_with fail
      go_ret
      exact ⟨rfl, .inr ⟨rfl, HF.out⟩⟩

set_option maxHeartbeats 2000000 in
set_option maxRecDepth 100000 in
theorem rdrop_any (v : Value) (l : List Re) (i : Nat) (w : World) (hl : l.length ≤ 1000) (hi : i < l.length) (hR : Rd w 5 v l.length (l.flatMap reC)) :
    Calls Try.prog 100 #[v, .int .i64 i] w (FreshR (l.take i ++ l.drop (i + 1)) w) := by
  obtain ⟨A, cap, hv, hcap, hnc⟩ := hR.shape
  subst hv
  obtain ⟨b, off, hA, hbl⟩ := hR.addr (by omega)
  subst hA
  obtain ⟨n, hn⟩ : ∃ n, l.length = n := ⟨_, rfl⟩
  have HN := Lib.hid hn
  have h1 := hR.cutEnd (k := i) (by omega)
  rw [flat_take reC 5 reC_len] at h1
  obtain ⟨AA, hAA⟩ : ∃ AA, (if cap = i + 1 then some (⟨b, off, none⟩ : Addr) else some ⟨b, off + (i + 1) * 5, none⟩) = AA := ⟨_, rfl⟩
  have h2 := hR.cutHead (k := i + 1) (by omega) AA (fun h => by rw [← hAA, if_neg (by omega)])
  rw [flat_drop reC 5 reC_len] at h2
  have e1 : (l.take i).length = i := by rw [List.length_take]; omega
  have e2 : (l.drop (i + 1)).length = n - (i + 1) := by rw [List.length_drop, hn]
  rw [hn] at h2 hi hnc hl ⊢
  have H1 : Hid (Rd w 5 (.slice (some ⟨b, off, none⟩) i cap) (l.take i).length ((l.take i).flatMap reC)) := by rw [e1]; exact h1
  have H2 : Hid (Rd w 5 (.slice AA (n - (i + 1)) (cap - (i + 1))) (l.drop (i + 1)).length ((l.drop (i + 1)).flatMap reC)) := by rw [e2]; exact h2
  have HE1 := Lib.hid e1
  have HE2 := Lib.hid e2
  have HAA := Lib.hid hAA
  clear h1 h2 hAA hR hn e1 e2
  have hiI : (i : Int) < (n : Int) := by omega
  have hi1 : (i : Int) + 1 ≤ (n : Int) := by omega
  have hi0 : (0 : Int) ≤ (i : Int) + 1 := by omega
  have hic : (i : Int) ≤ (cap : Int) := by omega
  have hto : ((i : Int) + 1).toNat = i + 1 := by omega
  have hnC : (n : Int) ≤ (cap : Int) := by omega
  by_cases hc : cap = i + 1
  · subst hc
    have H3 : Hid (Rd w 5 (.slice (some ⟨b, off, none⟩) 0 0) (l.drop (i + 1)).length ((l.drop (i + 1)).flatMap reC)) := by
      have := H2.out
      rw [← HAA.out, if_pos rfl, Nat.sub_self, show n - (i + 1) = 0 by omega] at this
      exact this
    clear HAA H2
    go_enter Try.func100, Try.ntmps100
    go_wp2_with (first | (at_builtin; refine wpList_app_re rfl (.const (.slice none 0 0)) (.tmp 8) rfl w.heap.size (.slice none 0 0) [] rfl (Own.nil_ _ _ _ _) (.slice (some ⟨b, off, none⟩) i (i + 1)) (l.take i) rfl H1.out (by have := HE1.out; have := HN.out; simp; omega) (Nat.le_refl _) ?_; intro v2 w2 hown2 _ _ hb2; have HO2 := Lib.hid hown2; have HB2 := Lib.hid hb2; have hs2 := hb2.size; clear hown2 hb2) | (at_builtin; refine wpList_app_re rfl (.tmp 10) (.tmp 14) rfl w.heap.size v2 ([] ++ l.take i) rfl HO2.out (.slice (some ⟨b, off, none⟩) 0 0) (l.drop (i + 1)) rfl (H3.out.below HB2.out (Nat.le_refl _)) (by have := HE1.out; have := HE2.out; have := HN.out; simp; omega) hs2 ?_; intro v3 w3 hown3 _ _ hb3; have HO3 := Lib.hid hown3; have HB3 := Lib.hid hb3; clear hown3 hb3))
    go_ret
    exact ⟨_, rfl, by simpa using HO3.out, HB2.out.trans HB3.out⟩
  · skip
    have H3 : Hid (Rd w 5 (.slice (some ⟨b, off + (i + 1) * 5, none⟩) (n - (i + 1)) (cap - (i + 1))) (l.drop (i + 1)).length ((l.drop (i + 1)).flatMap reC)) := by
      have := H2.out
      rw [← HAA.out, if_neg hc] at this
      exact this
    clear HAA H2
    go_enter Try.func100, Try.ntmps100
    go_wp2_with (first | (at_builtin; refine wpList_app_re rfl (.const (.slice none 0 0)) (.tmp 8) rfl w.heap.size (.slice none 0 0) [] rfl (Own.nil_ _ _ _ _) (.slice (some ⟨b, off, none⟩) i cap) (l.take i) rfl H1.out (by have := HE1.out; have := HN.out; simp; omega) (Nat.le_refl _) ?_; intro v2 w2 hown2 _ _ hb2; have HO2 := Lib.hid hown2; have HB2 := Lib.hid hb2; have hs2 := hb2.size; clear hown2 hb2) | (at_builtin; refine wpList_app_re rfl (.tmp 10) (.tmp 14) rfl w.heap.size v2 ([] ++ l.take i) rfl HO2.out (.slice (some ⟨b, off + (i + 1) * 5, none⟩) (n - (i + 1)) (cap - (i + 1))) (l.drop (i + 1)) rfl (H3.out.below HB2.out (Nat.le_refl _)) (by have := HE1.out; have := HE2.out; have := HN.out; simp; omega) hs2 ?_; intro v3 w3 hown3 _ _ hb3; have HO3 := Lib.hid hown3; have HB3 := Lib.hid hb3; clear hown3 hb3))
    go_ret
    exact ⟨_, rfl, by simpa using HO3.out, HB2.out.trans HB3.out⟩

end Go.Proofs.Ytncgpojjibojlaa

/- sutureref10.put: its contract. -/
namespace Go.Proofs.Ytncgpojjibojlaa
open Go Go.RowKit

def ptB (x : Re) (l : List Re) : Bool := l.any (fun y => decide (kR x < kR y))
def ptO (x : Re) (l : List Re) : List Re := l.filter (fun y => decide (kR y < kR x)) ++ (if ptB x l then x :: l.filter (fun y => decide (kR x < kR y)) else [])
theorem ptB_snoc (x y : Re) (l : List Re) : ptB x (l ++ [y]) = (ptB x l || decide (kR x < kR y)) := by simp [ptB]
theorem pt_none {x : Re} {l : List Re} (h : ptB x l = false) : l.filter (fun y => decide (kR x < kR y)) = [] := by
  rw [List.filter_eq_nil_iff]
  intro y hy
  unfold ptB at h
  rw [List.any_eq_false] at h
  exact h y hy
theorem ptO_put {x : Re} {l : List Re} : (if ptB x l then ptO x l else ptO x l ++ [x]) = putR l x := by
  unfold ptO putR
  cases h : ptB x l with
  | true => simp
  | false => simp [pt_none h]
theorem pt_low {x y : Re} {l : List Re} (h : Ris kR (l ++ [y])) (hk : kR y ≤ kR x) : ptB x l = false := by
  unfold ptB
  rw [List.any_eq_false]
  intro z hz
  have := (List.pairwise_append.1 h).2.2 z hz y (by simp)
  simp
  omega
theorem pt_step {l : List Re} {x y : Re} (h : Ris kR (l ++ [y])) :
    (kR x < kR y → ptB x l = false → ptO x (l ++ [y]) = ptO x l ++ [x] ++ [y] ∧ ptB x (l ++ [y]) = true) ∧ (kR x < kR y → ptB x l = true → ptO x (l ++ [y]) = ptO x l ++ [y] ∧ ptB x (l ++ [y]) = true) ∧
    (kR y < kR x → ptO x (l ++ [y]) = ptO x l ++ [y] ∧ ptB x (l ++ [y]) = ptB x l) ∧ (kR y = kR x → ptO x (l ++ [y]) = ptO x l ∧ ptB x (l ++ [y]) = ptB x l) := by
  refine ⟨fun hk hd => ?_, fun hk hd => ?_, fun hk => ?_, fun hk => ?_⟩
  · have e : ptB x (l ++ [y]) = true := by rw [ptB_snoc, hd]; simpa using hk
    refine ⟨?_, e⟩
    unfold ptO
    rw [e, hd, List.filter_append, List.filter_append, pt_none hd]
    simp [hk, show ¬ kR y < kR x by omega]
  · have e : ptB x (l ++ [y]) = true := by rw [ptB_snoc, hd]; rfl
    refine ⟨?_, e⟩
    unfold ptO
    rw [e, hd, List.filter_append, List.filter_append]
    simp [hk, show ¬ kR y < kR x by omega]
  · have hd := pt_low h (Int.le_of_lt hk)
    have e : ptB x (l ++ [y]) = false := by rw [ptB_snoc, hd]; simp; omega
    refine ⟨?_, by rw [e, hd]⟩
    unfold ptO
    rw [e, hd, List.filter_append]
    simp [hk]
  · have hd := pt_low h (Int.le_of_eq hk)
    have e : ptB x (l ++ [y]) = false := by rw [ptB_snoc, hd]; simp; omega
    refine ⟨?_, by rw [e, hd]⟩
    unfold ptO
    rw [e, hd, List.filter_append]
    simp [hk]
theorem ptO_len (x : Re) (l : List Re) : (ptO x l).length ≤ l.length + 1 := by
  have h := filter3_len l (kR x)
  have h2 := dropR_len_le l (kR x)
  unfold ptO
  rw [List.length_append]
  split
  · rw [List.length_cons]; omega
  · simp; omega

set_option maxHeartbeats 8000000 in
set_option maxRecDepth 100000 in
theorem rput_any (v : Value) (l : List Re) (x : Re) (w : World) (hl : l.length ≤ 1000) (hris : Ris kR l) (hR : Rd w 5 v l.length (l.flatMap reC)) :
    Calls Try.prog 99 #[v, .agg #[.int .i64 x.1, .int .i64 x.2.1, .int .u32 x.2.2.1, .bool x.2.2.2.1, .bool x.2.2.2.2]] w (FreshR (putR l x) w) := by
  obtain ⟨A, cap, hv, hcap, hnc⟩ := hR.shape
  subst hv
  obtain ⟨n, hn⟩ : ∃ n, l.length = n := ⟨_, rfl⟩
  have HN := Lib.hid hn
  have HI := Lib.hid hris
  obtain ⟨x0, x1, x2, x3, x4⟩ := x
  have hal := below_one w (.cells #[.int .i64 x0, .int .i64 x1, .int .u32 x2, .bool x3, .bool x4] 52)
  have hbx := Bx.new w 52 [.int .i64 x0, .int .i64 x1, .int .u32 x2, .bool x3, .bool x4]
  change Bx (w.alloc (.cells #[.int .i64 x0, .int .i64 x1, .int .u32 x2, .bool x3, .bool x4] 52)) _ _ _ at hbx
  have HR := Lib.hid (hR.below hal (Nat.le_refl _))
  rw [hn] at hnc hl HR ⊢
  dsimp only
  clear hn hris hR
  have hnm : n ≤ 9223372036854775807 := by omega
  go_enter Try.func99, Try.ntmps99
  go_wp2_with fail
  generalize (w.alloc (.cells #[.int .i64 x0, .int .i64 x1, .int .u32 x2, .bool x3, .bool x4] 52)) = w0 at *
  have HAL := Lib.hid hal
  have HBX := Lib.hid hbx
  have hbl := hbx.lt
  obtain ⟨B, hB⟩ : ∃ b, w.heap.size = b := ⟨_, rfl⟩
  have HBZ := Lib.hid hB
  rw [hB] at HBX hbl ⊢
  clear hal hbx hB
  go_loopw [5, 6, 7] (fun s5 s6 s7 wr => ∃ k : Nat, s7 = .int .i64 k ∧ k ≤ n ∧ s6 = .bool (ptB (x0, x1, x2, x3, x4) (l.take k)) ∧ Own wr w0.heap.size 52 5 s5 (ptO (x0, x1, x2, x3, x4) (l.take k)).length ((ptO (x0, x1, x2, x3, x4) (l.take k)).flatMap reC) ∧ Below w0.heap.size w0 wr) (fun _ _ s7 _ => n - (intOf s7).toNat)
  case atStart => exact ⟨0, rfl, Nat.zero_le _, rfl, Own.nil_ _ _ _ _, Below.refl _ _⟩
  case round =>
    obtain ⟨k, rfl, hk, rfl, hown, hbel⟩ := hrel
    obtain ⟨A5, cap5, hv5⟩ := hown.slice_
    subst hv5
    have hql : (ptO (x0, x1, x2, x3, x4) (l.take k)).length ≤ k + 1 := Nat.le_trans (ptO_len _ _) (by rw [List.length_take]; omega)
    by_cases hlt : k < n
    · have hltI : (k : Int) < (n : Int) := by omega
      have hR1 := HR.out.below hbel (Nat.le_refl _)
      obtain ⟨b, off, hA, hbl2⟩ := hR1.addr (by omega)
      subst hA
      obtain ⟨c0, c1, c2, c3, c4⟩ := rd_re hR1 k (by rw [HN.out]; exact hlt)
      have htk := take_at (l := l) (i := k) (by rw [HN.out]; exact hlt)
      have hst := pt_step (l := l.take k) (x := (x0, x1, x2, x3, x4)) (y := at_ l k) (by rw [← htk]; exact HI.out.sublist (List.take_sublist _ _))
      rw [← htk] at hst
      obtain ⟨y, hy⟩ : ∃ y, at_ l k = y := ⟨_, rfl⟩
      rw [hy] at c0 c1 c2 c3 c4 hst
      obtain ⟨q, hq⟩ : ∃ q, ptO (x0, x1, x2, x3, x4) (l.take k) = q := ⟨_, rfl⟩
      obtain ⟨d, hd⟩ : ∃ d, ptB (x0, x1, x2, x3, x4) (l.take k) = d := ⟨_, rfl⟩
      rw [hq, hd] at hst
      rw [hq] at hown hql ⊢
      rw [hd]
      have HST := Lib.hid hst
      have HO := Lib.hid hown
      have HB := Lib.hid hbel
      obtain ⟨y0, y1, y2, y3, y4⟩ := y
      simp only at c0 c1 c2 c3 c4
      have hal := below_one wr (.cells #[.int .i64 y0, .int .i64 y1, .int .u32 y2, .bool y3, .bool y4] 52)
      have hby := Bx.new wr 52 [.int .i64 y0, .int .i64 y1, .int .u32 y2, .bool y3, .bool y4]
      change Bx (wr.alloc (.cells #[.int .i64 y0, .int .i64 y1, .int .u32 y2, .bool y3, .bool y4] 52)) _ _ _ at hby
      have hbx1 := (HBX.out.below' hbel).below' hal
      obtain ⟨q0, q1, q2, q3, q4⟩ := hbx1.five
      obtain ⟨r0, r1, r2, r3, r4⟩ := hby.five
      have HX1 := Lib.hid hbx1
      have HY1 := Lib.hid hby
      have hsw := hbel.size
      have HOA := Lib.hid (hown.alloc (.cells #[.int .i64 y0, .int .i64 y1, .int .u32 y2, .bool y3, .bool y4] 52))
      have HBA := Lib.hid (below_then hbel hal)
      clear hst hown hbel hal hby hbx1 hq hd hy htk hR1
      by_cases h1 : y0 > x0
      · have hup : kR (x0, x1, x2, x3, x4) < kR (y0, y1, y2, y3, y4) := by simp only [kR]; have := flI_le x3; have := flI_le y3; omega
        cases d with
        | false =>
          have hs := HST.out.1 (hup) rfl
          have HS1 := Lib.hid hs.1
          have HS2 := Lib.hid hs.2
          clear hs HST hup
          go_wp2_with (first | (at_builtin; refine wpList_app_re rfl (.tmp 46) (.tmp 48) rfl w0.heap.size (.slice A5 q.length cap5) q rfl (HOA.out.alloc _) (.slice (some ⟨wr.heap.size + 1, 0, none⟩) 1 1) [(x0, x1, x2, x3, x4)] rfl (rd_re1 _ (by have := Bx.new (wr.alloc (.cells #[.int .i64 y0, .int .i64 y1, .int .u32 y2, .bool y3, .bool y4] 52)) 52 (reC (x0, x1, x2, x3, x4)); rw [World.size_alloc] at this; exact this)) (by simp; omega) (by simp; omega) ?_; intro v3 w3 hown3 hfr3 _ hb3; have hx3 := (HX1.out.alloc (.cells #[.int .i64 x0, .int .i64 x1, .int .u32 x2, .bool x3, .bool x4] 52)).fr hfr3 (fun e => by have := (HO.out.blk_lt e).1; omega); have hy3 := (HY1.out.alloc (.cells #[.int .i64 x0, .int .i64 x1, .int .u32 x2, .bool x3, .bool x4] 52)).fr hfr3 (fun e => by have := (HO.out.blk_lt e).2; omega); obtain ⟨qq0, qq1, qq2, qq3, qq4⟩ := hx3.five; obtain ⟨rr0, rr1, rr2, rr3, rr4⟩ := hy3.five; have HO3 := Lib.hid hown3; have HB3 := Lib.hid ((HBA.out.alloc (by simp; omega) _).trans hb3); have hs3 := HB3.out.size; clear hown3 hfr3 hb3 hx3 hy3) | (at_builtin; refine wpList_app_re rfl (.tmp 62) (.tmp 64) rfl w0.heap.size v3 (q ++ [(x0, x1, x2, x3, x4)]) rfl (HO3.out.alloc _) (.slice (some ⟨w3.heap.size, 0, none⟩) 1 1) [(y0, y1, y2, y3, y4)] rfl (rd_re1 _ (Bx.new w3 52 (reC (y0, y1, y2, y3, y4)))) (by simp; omega) (by simp; omega) ?_; intro v4 w4 hown4 _ _ hb4; have HO4 := Lib.hid hown4; have HB4 := Lib.hid ((HB3.out.alloc hs3 _).trans hb4); clear hown4 hb4))
          go_roundw
          case rel => exact ⟨k + 1, by go_num, by omega, by rw [HS2.out], by rw [HS1.out]; exact HO4.out, HB4.out⟩
          case measure => simp [intOf]; omega
        | true =>
          have hs := HST.out.2.1 (hup) rfl
          have HS1 := Lib.hid hs.1
          have HS2 := Lib.hid hs.2
          clear hs HST hup
          go_wp2_with (at_builtin; refine wpList_app_re rfl (.tmp 62) (.tmp 64) rfl w0.heap.size (.slice A5 q.length cap5) q rfl (HOA.out.alloc _) (.slice (some ⟨wr.heap.size + 1, 0, none⟩) 1 1) [(y0, y1, y2, y3, y4)] rfl (rd_re1 _ (by have := Bx.new (wr.alloc (.cells #[.int .i64 y0, .int .i64 y1, .int .u32 y2, .bool y3, .bool y4] 52)) 52 (reC (y0, y1, y2, y3, y4)); rw [World.size_alloc] at this; exact this)) (by simp; omega) (by simp; omega) ?_; intro v4 w4 hown4 _ _ hb4; have HO4 := Lib.hid hown4; have HB4 := Lib.hid ((HBA.out.alloc (by simp; omega) _).trans hb4); clear hown4 hb4)
          go_roundw
          case rel => exact ⟨k + 1, by go_num, by omega, by rw [HS2.out], by rw [HS1.out]; exact HO4.out, HB4.out⟩
          case measure => simp [intOf]; omega
      by_cases h2 : y0 < x0
      · have hdn : kR (y0, y1, y2, y3, y4) < kR (x0, x1, x2, x3, x4) := by simp only [kR]; have := flI_le x3; have := flI_le y3; omega
        cases d with
        | false =>
          have hs := HST.out.2.2.1 (hdn)
          have HS1 := Lib.hid hs.1
          have HS2 := Lib.hid hs.2
          clear hs HST hdn
          go_wp2_with (at_builtin; refine wpList_app_re rfl (.tmp 62) (.tmp 64) rfl w0.heap.size (.slice A5 q.length cap5) q rfl (HOA.out.alloc _) (.slice (some ⟨wr.heap.size + 1, 0, none⟩) 1 1) [(y0, y1, y2, y3, y4)] rfl (rd_re1 _ (by have := Bx.new (wr.alloc (.cells #[.int .i64 y0, .int .i64 y1, .int .u32 y2, .bool y3, .bool y4] 52)) 52 (reC (y0, y1, y2, y3, y4)); rw [World.size_alloc] at this; exact this)) (by simp; omega) (by simp; omega) ?_; intro v4 w4 hown4 _ _ hb4; have HO4 := Lib.hid hown4; have HB4 := Lib.hid ((HBA.out.alloc (by simp; omega) _).trans hb4); clear hown4 hb4)
          go_roundw
          case rel => exact ⟨k + 1, by go_num, by omega, by rw [HS2.out], by rw [HS1.out]; exact HO4.out, HB4.out⟩
          case measure => simp [intOf]; omega
        | true =>
          have hs := HST.out.2.2.1 (hdn)
          have HS1 := Lib.hid hs.1
          have HS2 := Lib.hid hs.2
          clear hs HST hdn
          go_wp2_with (at_builtin; refine wpList_app_re rfl (.tmp 62) (.tmp 64) rfl w0.heap.size (.slice A5 q.length cap5) q rfl (HOA.out.alloc _) (.slice (some ⟨wr.heap.size + 1, 0, none⟩) 1 1) [(y0, y1, y2, y3, y4)] rfl (rd_re1 _ (by have := Bx.new (wr.alloc (.cells #[.int .i64 y0, .int .i64 y1, .int .u32 y2, .bool y3, .bool y4] 52)) 52 (reC (y0, y1, y2, y3, y4)); rw [World.size_alloc] at this; exact this)) (by simp; omega) (by simp; omega) ?_; intro v4 w4 hown4 _ _ hb4; have HO4 := Lib.hid hown4; have HB4 := Lib.hid ((HBA.out.alloc (by simp; omega) _).trans hb4); clear hown4 hb4)
          go_roundw
          case rel => exact ⟨k + 1, by go_num, by omega, by rw [HS2.out], by rw [HS1.out]; exact HO4.out, HB4.out⟩
          case measure => simp [intOf]; omega
      obtain rfl : y0 = x0 := by omega
      cases y3 with
      | true =>
        cases x3 with
        | true =>
          cases d with
          | false =>
            have hs := HST.out.2.2.2 (by simp [kR])
            have HS1 := Lib.hid hs.1
            have HS2 := Lib.hid hs.2
            clear hs HST
            go_wp2_with fail
            go_roundw
            case rel => exact ⟨k + 1, by go_num, by omega, by rw [HS2.out], by rw [HS1.out]; exact HOA.out, HBA.out⟩
            case measure => simp [intOf]; omega
          | true =>
            have hs := HST.out.2.2.2 (by simp [kR])
            have HS1 := Lib.hid hs.1
            have HS2 := Lib.hid hs.2
            clear hs HST
            go_wp2_with fail
            go_roundw
            case rel => exact ⟨k + 1, by go_num, by omega, by rw [HS2.out], by rw [HS1.out]; exact HOA.out, HBA.out⟩
            case measure => simp [intOf]; omega
        | false =>
          cases d with
          | false =>
            have hs := HST.out.1 (by simp [kR, flI]; omega) rfl
            have HS1 := Lib.hid hs.1
            have HS2 := Lib.hid hs.2
            clear hs HST
            go_wp2_with (first | (at_builtin; refine wpList_app_re rfl (.tmp 46) (.tmp 48) rfl w0.heap.size (.slice A5 q.length cap5) q rfl (HOA.out.alloc _) (.slice (some ⟨wr.heap.size + 1, 0, none⟩) 1 1) [(y0, x1, x2, false, x4)] rfl (rd_re1 _ (by have := Bx.new (wr.alloc (.cells #[.int .i64 y0, .int .i64 y1, .int .u32 y2, .bool true, .bool y4] 52)) 52 (reC (y0, x1, x2, false, x4)); rw [World.size_alloc] at this; exact this)) (by simp; omega) (by simp; omega) ?_; intro v3 w3 hown3 hfr3 _ hb3; have hx3 := (HX1.out.alloc (.cells #[.int .i64 y0, .int .i64 x1, .int .u32 x2, .bool false, .bool x4] 52)).fr hfr3 (fun e => by have := (HO.out.blk_lt e).1; omega); have hy3 := (HY1.out.alloc (.cells #[.int .i64 y0, .int .i64 x1, .int .u32 x2, .bool false, .bool x4] 52)).fr hfr3 (fun e => by have := (HO.out.blk_lt e).2; omega); obtain ⟨qq0, qq1, qq2, qq3, qq4⟩ := hx3.five; obtain ⟨rr0, rr1, rr2, rr3, rr4⟩ := hy3.five; have HO3 := Lib.hid hown3; have HB3 := Lib.hid ((HBA.out.alloc (by simp; omega) _).trans hb3); have hs3 := HB3.out.size; clear hown3 hfr3 hb3 hx3 hy3) | (at_builtin; refine wpList_app_re rfl (.tmp 62) (.tmp 64) rfl w0.heap.size v3 (q ++ [(y0, x1, x2, false, x4)]) rfl (HO3.out.alloc _) (.slice (some ⟨w3.heap.size, 0, none⟩) 1 1) [(y0, y1, y2, true, y4)] rfl (rd_re1 _ (Bx.new w3 52 (reC (y0, y1, y2, true, y4)))) (by simp; omega) (by simp; omega) ?_; intro v4 w4 hown4 _ _ hb4; have HO4 := Lib.hid hown4; have HB4 := Lib.hid ((HB3.out.alloc hs3 _).trans hb4); clear hown4 hb4))
            go_roundw
            case rel => exact ⟨k + 1, by go_num, by omega, by rw [HS2.out], by rw [HS1.out]; exact HO4.out, HB4.out⟩
            case measure => simp [intOf]; omega
          | true =>
            have hs := HST.out.2.1 (by simp [kR, flI]; omega) rfl
            have HS1 := Lib.hid hs.1
            have HS2 := Lib.hid hs.2
            clear hs HST
            go_wp2_with (at_builtin; refine wpList_app_re rfl (.tmp 62) (.tmp 64) rfl w0.heap.size (.slice A5 q.length cap5) q rfl (HOA.out.alloc _) (.slice (some ⟨wr.heap.size + 1, 0, none⟩) 1 1) [(y0, y1, y2, true, y4)] rfl (rd_re1 _ (by have := Bx.new (wr.alloc (.cells #[.int .i64 y0, .int .i64 y1, .int .u32 y2, .bool true, .bool y4] 52)) 52 (reC (y0, y1, y2, true, y4)); rw [World.size_alloc] at this; exact this)) (by simp; omega) (by simp; omega) ?_; intro v4 w4 hown4 _ _ hb4; have HO4 := Lib.hid hown4; have HB4 := Lib.hid ((HBA.out.alloc (by simp; omega) _).trans hb4); clear hown4 hb4)
            go_roundw
            case rel => exact ⟨k + 1, by go_num, by omega, by rw [HS2.out], by rw [HS1.out]; exact HO4.out, HB4.out⟩
            case measure => simp [intOf]; omega
      | false =>
        cases x3 with
        | true =>
          cases d with
          | false =>
            have hs := HST.out.2.2.1 (by simp [kR, flI]; omega)
            have HS1 := Lib.hid hs.1
            have HS2 := Lib.hid hs.2
            clear hs HST
            go_wp2_with (at_builtin; refine wpList_app_re rfl (.tmp 62) (.tmp 64) rfl w0.heap.size (.slice A5 q.length cap5) q rfl (HOA.out.alloc _) (.slice (some ⟨wr.heap.size + 1, 0, none⟩) 1 1) [(y0, y1, y2, false, y4)] rfl (rd_re1 _ (by have := Bx.new (wr.alloc (.cells #[.int .i64 y0, .int .i64 y1, .int .u32 y2, .bool false, .bool y4] 52)) 52 (reC (y0, y1, y2, false, y4)); rw [World.size_alloc] at this; exact this)) (by simp; omega) (by simp; omega) ?_; intro v4 w4 hown4 _ _ hb4; have HO4 := Lib.hid hown4; have HB4 := Lib.hid ((HBA.out.alloc (by simp; omega) _).trans hb4); clear hown4 hb4)
            go_roundw
            case rel => exact ⟨k + 1, by go_num, by omega, by rw [HS2.out], by rw [HS1.out]; exact HO4.out, HB4.out⟩
            case measure => simp [intOf]; omega
          | true =>
            have hs := HST.out.2.2.1 (by simp [kR, flI]; omega)
            have HS1 := Lib.hid hs.1
            have HS2 := Lib.hid hs.2
            clear hs HST
            go_wp2_with (at_builtin; refine wpList_app_re rfl (.tmp 62) (.tmp 64) rfl w0.heap.size (.slice A5 q.length cap5) q rfl (HOA.out.alloc _) (.slice (some ⟨wr.heap.size + 1, 0, none⟩) 1 1) [(y0, y1, y2, false, y4)] rfl (rd_re1 _ (by have := Bx.new (wr.alloc (.cells #[.int .i64 y0, .int .i64 y1, .int .u32 y2, .bool false, .bool y4] 52)) 52 (reC (y0, y1, y2, false, y4)); rw [World.size_alloc] at this; exact this)) (by simp; omega) (by simp; omega) ?_; intro v4 w4 hown4 _ _ hb4; have HO4 := Lib.hid hown4; have HB4 := Lib.hid ((HBA.out.alloc (by simp; omega) _).trans hb4); clear hown4 hb4)
            go_roundw
            case rel => exact ⟨k + 1, by go_num, by omega, by rw [HS2.out], by rw [HS1.out]; exact HO4.out, HB4.out⟩
            case measure => simp [intOf]; omega
        | false =>
          cases d with
          | false =>
            have hs := HST.out.2.2.2 (by simp [kR])
            have HS1 := Lib.hid hs.1
            have HS2 := Lib.hid hs.2
            clear hs HST
            go_wp2_with fail
            go_roundw
            case rel => exact ⟨k + 1, by go_num, by omega, by rw [HS2.out], by rw [HS1.out]; exact HOA.out, HBA.out⟩
            case measure => simp [intOf]; omega
          | true =>
            have hs := HST.out.2.2.2 (by simp [kR])
            have HS1 := Lib.hid hs.1
            have HS2 := Lib.hid hs.2
            clear hs HST
            go_wp2_with fail
            go_roundw
            case rel => exact ⟨k + 1, by go_num, by omega, by rw [HS2.out], by rw [HS1.out]; exact HOA.out, HBA.out⟩
            case measure => simp [intOf]; omega
    · obtain rfl : k = n := by omega
      have htk : l.take k = l := by rw [← HN.out, List.take_length]
      rw [htk] at hown hql ⊢
      have hput := ptO_put (x := (x0, x1, x2, x3, x4)) (l := l)
      have HO := Lib.hid hown
      have HB := Lib.hid hbel
      have hsw := hbel.size
      obtain ⟨q0, q1, q2, q3, q4⟩ := (HBX.out.below' hbel).five
      obtain ⟨q, hq⟩ : ∃ q, ptO (x0, x1, x2, x3, x4) l = q := ⟨_, rfl⟩
      obtain ⟨d, hd⟩ : ∃ d, ptB (x0, x1, x2, x3, x4) l = d := ⟨_, rfl⟩
      rw [hq, hd] at hput
      rw [hq] at HO hql ⊢
      rw [hd]
      have HPUT := Lib.hid hput
      clear hput hq hd hown hbel
      cases d with
      | true =>
        have HP2 : Hid (q = putR l (x0, x1, x2, x3, x4)) := HPUT.out
        clear HPUT
        go_wp2_with fail
        go_ret
        exact ⟨_, rfl, by rw [← HP2.out]; exact HO.out.mono (by have := HAL.out.size; omega), HAL.out.trans (HB.out.mono HAL.out.size)⟩
      | false =>
        have HP2 : Hid (q ++ [(x0, x1, x2, x3, x4)] = putR l (x0, x1, x2, x3, x4)) := HPUT.out
        clear HPUT
        go_wp2_with (at_builtin; refine wpList_app_re rfl (.tmp 68) (.tmp 70) rfl w0.heap.size (.slice A5 q.length cap5) q rfl (HO.out.alloc _) (.slice (some ⟨wr.heap.size, 0, none⟩) 1 1) [(x0, x1, x2, x3, x4)] rfl (rd_re1 _ (Bx.new wr 52 (reC (x0, x1, x2, x3, x4)))) (by simp; omega) (by simp; omega) ?_; intro v3 w3 hown3 _ _ hb3; have HO3 := Lib.hid hown3; have HB3 := Lib.hid hb3; clear hown3 hb3)
        go_ret
        exact ⟨_, rfl, by rw [← HP2.out]; exact HO3.out.mono (by have := HAL.out.size; omega), HAL.out.trans (((HB.out.alloc hsw _).trans HB3.out).mono HAL.out.size)⟩

end Go.Proofs.Ytncgpojjibojlaa

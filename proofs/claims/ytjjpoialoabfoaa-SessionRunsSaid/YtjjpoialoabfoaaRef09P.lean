/- sutureref09: Look, Put, Same: their contracts. -/
import Derived.Test.YtjjpoialoabfoaaRef09
namespace Go.Proofs.Ytjjpoialoabfoaa
open Go Go.RowKit

theorem sesS_seq {l : List Se} (h : MaySL l) (c : Int) : (0 ≤ (sesS l c).2.1 ∧ (sesS l c).2.1 ≤ 1099511627776) ∧ ((sesS l c).2.1 = 0 ↔ (l.find? (fun x => key_se x == c)).isNone = true) := by
  unfold sesS
  cases hf : l.find? (fun x => key_se x == c) with
  | none => simp
  | some x =>
    have := (h.2.1 x (List.mem_of_find?_eq_some hf)).2
    simp
    omega

set_option maxHeartbeats 2000000 in
theorem rlook_any (v : Value) (l : List Se) (c q : Int) (w : World) (hR : Rd w 3 v l.length (l.flatMap seC)) :
    Calls Try.prog 10 #[v, .int .i64 c, .int .i64 q] w (LookE l c q w) := by
  have HR := Lib.hid hR
  clear hR
  go_enter Try.func10, Try.ntmps10
  go_wp2_with fail
  refine (rMay_any _ l w HR.out).mono ?_
  rintro e w1 ⟨rfl, hb1⟩
  have HB1 := Lib.hid hb1
  clear hb1
  cases hm : maySL l with
  | false =>
    have HE : Hid (lookS l c q = (0, false, 1)) := by show lookS l c q = _; unfold lookS; rw [if_pos (.inl hm)]
    clear hm
    go_wp2_with (go_at_call 18; refine (rmay_any _ _ _).mono ?_; rintro e w2 ⟨rfl, rfl⟩)
    go_ret3
    exact ⟨by rw [HE.out]; rfl, HB1.out⟩
  | true =>
    have HM := Lib.hid hm
    clear hm
    cases hq : mayS (c, q, 0) with
    | false =>
      have HE : Hid (lookS l c q = (0, false, 1)) := by show lookS l c q = _; unfold lookS; rw [if_pos (.inr hq)]
      have HQ := Lib.hid hq
      clear hq
      go_wp2_with (go_at_call 18; refine (rmay_any _ _ _).mono ?_; rintro e w2 ⟨rfl, rfl⟩; rw [HQ.out])
      go_ret3
      exact ⟨by rw [HE.out]; rfl, HB1.out⟩
    | true =>
      have HQ := Lib.hid hq
      clear hq
      go_wp2_with (go_at_call 18; refine (rmay_any _ _ _).mono ?_; rintro e w2 ⟨rfl, rfl⟩; rw [HQ.out])
      refine (rfind_any _ l c _ (HR.out.below HB1.out (Nat.le_refl _))).mono ?_
      rintro e w3 ⟨rfl, hb3⟩
      have HB3 := Lib.hid (below_then HB1.out hb3)
      have hsq := (sesS_seq (of_decide_eq_true HM.out) c).1
      obtain ⟨s, hs⟩ : ∃ s, sesS l c = s := ⟨_, rfl⟩
      have HS := Lib.hid (lookS_of HM.out HQ.out hs)
      rw [hs] at hsq ⊢
      obtain ⟨x0, x1, x2⟩ := s
      simp only [seV] at hsq ⊢
      clear hs hb3
      have hx1 := hsq.2
      by_cases t1 : q < x1
      · go_wp2_with fail
        go_ret3
        refine ⟨?_, below_then HB3.out (below_one _ _)⟩
        rw [HS.out, if_pos t1]; rfl
      · by_cases t2 : q = x1
        · subst t2
          go_wp2_with fail
          go_ret3
          refine ⟨?_, below_then HB3.out (below_one _ _)⟩
          rw [show lookS l c q = (x2, true, 0) by rw [HS.out]; simp]; rfl
        · have t2' : (q == x1) = false := by simpa using t2
          by_cases t3 : x1 + 1 < q
          · go_wp2_with fail
            go_ret3
            refine ⟨?_, below_then HB3.out (below_one _ _)⟩
            rw [HS.out, if_neg (show ¬ q < x1 by omega), if_neg (show ¬ q = x1 by omega), if_pos (show q > x1 + 1 by omega)]; rfl
          · go_wp2_with fail
            go_ret3
            refine ⟨?_, below_then HB3.out (below_one _ _)⟩
            rw [HS.out, if_neg (show ¬ q < x1 by omega), if_neg (show ¬ q = x1 by omega), if_neg (show ¬ q > x1 + 1 by omega)]; rfl

def outK (l : List Se) (x : Se) (k : Nat) (d : Bool) : List Se := if d then putS (l.take k) x else l.take k
theorem putS_low {l : List Se} {x : Se} (h : ∀ y ∈ l, y.1 < x.1) : putS l x = l ++ [x] := by
  unfold putS
  rw [List.filter_eq_self.2 (fun y hy => by simpa using h y hy), List.filter_eq_nil_iff.2 (fun y hy => by have := h y hy; simp; omega)]
theorem putS_up {l : List Se} {x y : Se} (h : x.1 < y.1) : putS (l ++ [y]) x = putS l x ++ [y] := by
  unfold putS
  rw [List.filter_append, List.filter_append]
  have e1 : [y].filter (fun z => decide (z.1 < x.1)) = [] := by simp; omega
  have e2 : [y].filter (fun z => decide (x.1 < z.1)) = [y] := by simp [h]
  rw [e1, e2]
  simp
theorem putS_same {l : List Se} {x y : Se} (h : x.1 = y.1) : putS (l ++ [y]) x = putS l x := by
  unfold putS
  rw [List.filter_append, List.filter_append]
  have e1 : [y].filter (fun z => decide (z.1 < x.1)) = [] := by simp; omega
  have e2 : [y].filter (fun z => decide (x.1 < z.1)) = [] := by simp; omega
  rw [e1, e2]
  simp
theorem take_low {l : List Se} {k : Nat} {c : Int} (hk : k ≤ l.length) (h : ∀ j, j < k → (at_ l j).1 < c) : ∀ y ∈ l.take k, y.1 < c := fun y hy => by
  obtain ⟨j, hj, rfl⟩ := List.mem_iff_getElem.1 hy
  rw [List.getElem_take]
  rw [List.length_take] at hj
  have := h j (by omega)
  rw [at_eq (show j < l.length by omega)] at this
  exact this
theorem outK_len (l : List Se) (x : Se) (k : Nat) (d : Bool) : (outK l x k d).length ≤ k + k + 1 := by
  unfold outK
  split
  · unfold putS
    have h1 := List.length_filter_le (fun y => decide (y.1 < x.1)) (l.take k)
    have h2 := List.length_filter_le (fun y => decide (x.1 < y.1)) (l.take k)
    have h3 := List.length_take_le k l
    simp only [List.length_append, List.length_cons]
    omega
  · have h3 := List.length_take_le k l
    omega

def RPutR (W : World) (B : Nat) (l : List Se) (x : Se) (n : Nat) (s15 s16 s17 : Value) (wr : World) : Prop :=
  ∃ (k : Nat) (d : Bool), k ≤ n ∧ s17 = .int .i64 k ∧ s16 = .bool d ∧ Own wr B 37 3 s15 (outK l x k d).length ((outK l x k d).flatMap seC) ∧ (d = false → ∀ j, j < k → (at_ l j).1 < x.1) ∧ (d = true → ∃ j, j < k ∧ x.1 ≤ (at_ l j).1) ∧ Below B W wr

set_option maxHeartbeats 4000000 in
set_option maxRecDepth 100000 in
theorem rput_any (v : Value) (l : List Se) (c q a : Int) (w : World) (hl : l.length ≤ 400) (hR : Rd w 3 v l.length (l.flatMap seC)) :
    Calls Try.prog 14 #[v, .int .i64 c, .int .i64 q, .int .i64 a] w (PutE l (c, q, a) w) := by
  obtain ⟨ii, hii, hz0, hz1, hz2⟩ := info_parts info_se
  obtain ⟨A, cap, hv, hcap, hnc⟩ := hR.shape
  obtain ⟨n, hn⟩ : ∃ n, l.length = n := ⟨_, rfl⟩
  have HR := Lib.hid hR
  have HN := Lib.hid hn
  rw [hn] at hv hnc hl
  subst hv
  clear hR hn
  go_enter Try.func14, Try.ntmps14
  go_wp2_with fail
  refine (rlook_any _ l c q w HR.out).mono ?_
  rintro e w1 ⟨rfl, hb1⟩
  have HB1 := Lib.hid hb1
  have HO := Lib.hid (fun h => lookS_ok (l := l) (c := c) (q := q) h)
  clear hb1
  obtain ⟨a0, t0, e0, hlk⟩ : ∃ a0 t0 e0, lookS l c q = (a0, t0, e0) := ⟨_, _, _, rfl⟩
  rw [hlk] at HO ⊢
  have HLK := Lib.hid hlk
  clear hlk
  simp only at HO
  by_cases he : e0 = 0
  · subst he
    have hml := HO.out rfl
    have HML := Lib.hid hml
    clear hml HO
    cases t0 with
    | true =>
      have e6 : putSE l c q = 6 := by unfold putSE; rw [HLK.out]; simp
      have E6 := Lib.hid e6
      clear e6
      go_wp2_with fail
      go_ret2
      refine ⟨_, by show _ = Ending.returned (.tuple #[_, .int .i64 (putSE l c q)]); rw [E6.out]; rfl, ?_, HB1.out⟩
      rw [show putO l (c, q, a) = [] by unfold putO; rw [if_neg (by show ¬ putSE l c q = 0; rw [E6.out]; omega)]]
      exact Own.nil_ _ _ _ _
    | false =>
      go_wp2_with fail
      refine (rfind_any _ l c w1 (HR.out.below HB1.out (Nat.le_refl _))).mono ?_
      rintro e w2 ⟨rfl, hb2⟩
      have HB2 := Lib.hid (below_then HB1.out hb2)
      have hsq := sesS_seq HML.out.1 c
      obtain ⟨s, hs⟩ : ∃ s, sesS l c = s := ⟨_, rfl⟩
      rw [hs] at hsq ⊢
      obtain ⟨x0, x1, x2⟩ := s
      simp only [seV] at hsq ⊢
      have HSQ := Lib.hid hsq.2
      clear hs hb2 hsq
      by_cases hfull : x1 = 0 ∧ 16 ≤ n
      · obtain ⟨rfl, h16⟩ := hfull
        have h16I : (16 : Int) ≤ (n : Int) := by omega
        have e6 : putSE l c q = 7 := by unfold putSE; rw [HLK.out]; simp [HN.out, h16]; simpa using HSQ.out.1 rfl
        have E6 := Lib.hid e6
        clear e6
        go_wp2_with fail
        go_ret2
        refine ⟨_, by show _ = Ending.returned (.tuple #[_, .int .i64 (putSE l c q)]); rw [E6.out]; rfl, ?_, below_then HB2.out (below_one _ _)⟩
        rw [show putO l (c, q, a) = [] by unfold putO; rw [if_neg (by show ¬ putSE l c q = 0; rw [E6.out]; omega)]]
        exact Own.nil_ _ _ _ _
      · have e6 : putSE l c q = 0 := by
          unfold putSE; rw [HLK.out]
          simp only [ne_eq, not_true_eq_false, if_false, Bool.false_eq_true]
          rw [if_neg]
          intro ⟨h1, h2⟩
          rw [HN.out] at h2
          exact hfull ⟨HSQ.out.2 h1, h2⟩
        have E6 := Lib.hid e6
        have HPO : Hid (putO l (c, q, a) = putS l (c, q, a)) := by show putO l (c, q, a) = _; unfold putO; rw [if_pos (show putSE l c q = 0 from e6)]
        clear e6
        have hal := below2 w2 (.cells #[.int .i64 x0, .int .i64 x1, .int .i64 x2] 37) (.cells #[.int .i64 c, .int .i64 q, .int .i64 a] 37)
        have hbx : Bx ((w2.alloc (.cells #[.int .i64 x0, .int .i64 x1, .int .i64 x2] 37)).alloc (.cells #[.int .i64 c, .int .i64 q, .int .i64 a] 37)) (w2.heap.size + 1) 37 [.int .i64 c, .int .i64 q, .int .i64 a] := by
          have := Bx.new (w2.alloc (.cells #[.int .i64 x0, .int .i64 x1, .int .i64 x2] 37)) 37 [.int .i64 c, .int .i64 q, .int .i64 a]
          rw [World.size_alloc] at this
          exact this
        have HAL := Lib.hid (below_then HB2.out hal)
        have HBX := Lib.hid hbx
        clear hal hbx
        have hcnd : x1 = 0 → decide ((16 : Int) ≤ (n : Int)) = false := fun h => decide_eq_false (by omega)
        clear hfull
        by_cases hx0 : x1 = 0
        · have hd16 := hcnd hx0
          subst hx0
          clear hcnd
          go_wp2_with fail
          generalize ((w2.alloc (.cells #[.int .i64 x0, .int .i64 0, .int .i64 x2] 37)).alloc (.cells #[.int .i64 c, .int .i64 q, .int .i64 a] 37)) = W5 at *
          obtain ⟨B, hB⟩ : ∃ B, w2.heap.size + 1 = B := ⟨_, rfl⟩
          have hW2 : w2.heap.size ≤ W5.heap.size := by have := HBX.out.lt; omega
          rw [hB] at HBX ⊢
          clear hB
          go_loopw [15, 16, 17] (RPutR W5 W5.heap.size l (c, q, a) n) (fun _ _ s17 _ => n - (intOf s17).toNat)
          case atStart => exact ⟨0, false, by omega, rfl, rfl, Own.nil_ _ _ _ _, fun _ j hj => absurd hj (by omega), (fun h => (by cases h)), Below.refl _ _⟩
          case round =>
            obtain ⟨k, d, hk, rfl, rfl, hown, hd0, hd1, hbel⟩ := hrel
            have HO1 := Lib.hid hown
            have HB := Lib.hid hbel
            have HD0 := Lib.hid hd0
            have HD1 := Lib.hid hd1
            have hsr := hbel.size
            have hol := outK_len l (c, q, a) k d
            obtain ⟨oo, hoo⟩ : ∃ oo, outK l (c, q, a) k d = oo := ⟨_, rfl⟩
            have HOO := Lib.hid hoo
            rw [hoo] at HO1 hol
            obtain ⟨Ao, capo, hvo⟩ := HO1.out.slice_
            subst hvo
            clear hown hbel hd0 hd1 hoo
            obtain ⟨y0, y1, y2⟩ := (HBX.out.below' HB.out).three
            by_cases hlt : k < n
            · have hltI : (k : Int) < (n : Int) := by omega
              have hR1 := (HR.out.below HAL.out (Nat.le_refl _)).below HB.out (Nat.le_refl _)
              rw [HN.out] at hR1
              obtain ⟨b, off, hA, hbl⟩ := hR1.addr (by omega)
              subst hA
              obtain ⟨c0, c1, c2⟩ := rd_se hR1 k (by rw [HN.out]; exact hlt)
              obtain ⟨z, hz⟩ : ∃ z, at_ l k = z := ⟨_, rfl⟩
              rw [hz] at c0 c1 c2
              obtain ⟨z0, z1, z2⟩ := z
              simp only at c0 c1 c2
              have HZ := Lib.hid hz
              have HT : Hid (l.take (k + 1) = l.take k ++ [(z0, z1, z2)]) := by rw [take_at (by rw [HN.out]; exact hlt), hz]; exact rfl
              clear hz
              have HRN : Hid (Rd w 3 (.slice (some ⟨b, off, none⟩) n cap) n (l.flatMap seC)) := by have := HR.out; rw [HN.out] at this; exact this
              clear hR1
              cases d with
              | true =>
                have hzc : c < z0 := by
                  obtain ⟨j, hj, hle⟩ := HD1.out rfl
                  have := HML.out.1.ris.lt hj (show k < l.length by rw [HN.out]; exact hlt)
                  rw [HZ.out] at this
                  simp only [key_se] at this
                  simp only at hle
                  omega
                have hne : (z0 != c) = true := by simpa using (by omega : ¬ z0 = c)
                go_wp2_with (at_builtin; refine wpList_append_seg rfl _ _ 22 rfl W5.heap.size 37 ii _ 3 24 (by kernel_rfl) hii hz0 hz1 hz2 rfl (by omega) _ _ _ rfl (HO1.out.alloc _) (.slice (some ⟨wr.heap.size, 0, none⟩) 1 1) 1 (seC (z0, z1, z2)) rfl (rd_one (t := 37) (heap_alloc_new _ _) rfl) (fun u hu => seC_one [(z0, z1, z2)] u (by simpa using hu)) (by unfold maxLen; omega) (by omega) (by simp; try omega) ?_; intro v1 w1 hown hfr hbk _; have HN1 := Lib.hid hown; have HF1 := Lib.hid (hfr.below (B := W5.heap.size) (by simp; try omega) (fun k hk => (HO1.out.blk_lt hk).1)); have hs1 := hfr.size; simp only [World.size_alloc] at hs1; clear hown hfr hbk)
                go_roundw
                case rel =>
                  refine ⟨k + 1, true, by omega, by go_num, rfl, ?_, (fun h => (by cases h)), fun _ => by obtain ⟨j, hj, hle⟩ := HD1.out rfl; exact ⟨j, by omega, hle⟩, (HB.out.alloc hsr _).trans HF1.out⟩
                  have e1 : outK l (c, q, a) (k + 1) true = oo ++ [(z0, z1, z2)] := by unfold outK; rw [if_pos rfl, HT.out, putS_up hzc]; have := HOO.out; unfold outK at this; rw [if_pos rfl] at this; rw [this]
                  rw [e1, List.length_append, List.flatMap_append, flat_one]
                  exact HN1.out
                case measure => simp [intOf]; omega
              | false =>
                have hoT : oo = l.take k := by rw [← HOO.out]; exact rfl
                have HOT := Lib.hid hoT
                have HLow := Lib.hid (take_low (by rw [HN.out]; omega) (HD0.out rfl))
                clear hoT
                by_cases hzc : c ≤ z0
                · by_cases heq : z0 = c
                  · subst heq
                    go_wp2_with (at_builtin; refine wpList_append_seg rfl _ _ 22 rfl W5.heap.size 37 ii _ 3 24 (by kernel_rfl) hii hz0 hz1 hz2 rfl (by omega) _ _ _ rfl (HO1.out.alloc _) (.slice (some ⟨wr.heap.size, 0, none⟩) 1 1) 1 (seC (z0, q, a)) rfl (rd_one (t := 37) (heap_alloc_new _ _) rfl) (fun u hu => seC_one [(z0, q, a)] u (by simpa using hu)) (by unfold maxLen; omega) (by omega) (by simp; try omega) ?_; intro v1 w1 hown hfr hbk _; have HN1 := Lib.hid hown; have HF1 := Lib.hid (hfr.below (B := W5.heap.size) (by simp; try omega) (fun k hk => (HO1.out.blk_lt hk).1)); have hs1 := hfr.size; simp only [World.size_alloc] at hs1; clear hown hfr hbk; obtain ⟨d0, d1, d2⟩ := rd_se ((HRN.out.below HAL.out (Nat.le_refl _)).below ((HB.out.alloc hsr _).trans HF1.out) (Nat.le_refl _)) k (by rw [HN.out]; exact hlt); rw [HZ.out] at d0 d1 d2; simp only at d0 d1 d2; clear c0 c1 c2)
                    go_roundw
                    case rel =>
                      refine ⟨k + 1, true, by omega, by go_num, rfl, ?_, fun h => (by cases h), fun _ => ⟨k, by omega, by rw [HZ.out]; exact Int.le_refl _⟩, (HB.out.alloc hsr _).trans HF1.out⟩
                      have e1 : outK l (z0, q, a) (k + 1) true = oo ++ [(z0, q, a)] := by unfold outK; rw [if_pos rfl, HT.out, putS_same (x := (z0, q, a)) (y := (z0, z1, z2)) rfl, putS_low HLow.out, HOT.out]
                      rw [e1, List.length_append, List.flatMap_append, flat_one]
                      exact HN1.out
                    case measure => simp [intOf]; omega
                  · have hne : (z0 != c) = true := by simpa using heq
                    go_wp2_with (first
                      | (at_builtin; refine wpList_append_seg rfl _ _ 22 rfl W5.heap.size 37 ii _ 3 24 (by kernel_rfl) hii hz0 hz1 hz2 rfl (by omega) _ _ _ rfl (HO1.out.alloc _) (.slice (some ⟨wr.heap.size, 0, none⟩) 1 1) 1 (seC (c, q, a)) rfl (rd_one (t := 37) (heap_alloc_new _ _) rfl) (fun u hu => seC_one [(c, q, a)] u (by simpa using hu)) (by unfold maxLen; omega) (by omega) (by simp; try omega) ?_; intro v1 w1 hown hfr hbk _; have HN1 := Lib.hid hown; have HF1 := Lib.hid (hfr.below (B := W5.heap.size) (by simp; try omega) (fun k hk => (HO1.out.blk_lt hk).1)); have hs1 := hfr.size; simp only [World.size_alloc] at hs1; clear hown hfr hbk; obtain ⟨d0, d1, d2⟩ := rd_se ((HRN.out.below HAL.out (Nat.le_refl _)).below ((HB.out.alloc hsr _).trans HF1.out) (Nat.le_refl _)) k (by rw [HN.out]; exact hlt); rw [HZ.out] at d0 d1 d2; simp only at d0 d1 d2; clear c0 c1 c2)
                      | (at_builtin; refine wpList_append_seg rfl _ _ 22 rfl W5.heap.size 37 ii _ 3 24 (by kernel_rfl) hii hz0 hz1 hz2 rfl (by omega) _ _ _ rfl (HN1.out.alloc _) (.slice (some ⟨w1.heap.size, 0, none⟩) 1 1) 1 (seC (z0, z1, z2)) rfl (rd_one (t := 37) (heap_alloc_new _ _) rfl) (fun u hu => seC_one [(z0, z1, z2)] u (by simpa using hu)) (by unfold maxLen; omega) (by omega) (by simp; try omega) ?_; intro v2 w2 hown hfr hbk _; have HN2 := Lib.hid hown; have HF2 := Lib.hid (hfr.below (B := W5.heap.size) (by simp; try omega) (fun k hk => (HN1.out.blk_lt hk).1)); have hs2 := hfr.size; simp only [World.size_alloc] at hs2; clear hown hfr hbk))
                    go_roundw
                    case rel =>
                      refine ⟨k + 1, true, by omega, by go_num, rfl, ?_, fun h => (by cases h), fun _ => ⟨k, by omega, by rw [HZ.out]; exact hzc⟩, (((HB.out.alloc hsr _).trans HF1.out).alloc (by omega) _).trans HF2.out⟩
                      have e1 : outK l (c, q, a) (k + 1) true = oo ++ [(c, q, a)] ++ [(z0, z1, z2)] := by unfold outK; rw [if_pos rfl, HT.out, putS_up (by show c < z0; omega), putS_low HLow.out, HOT.out]
                      rw [e1, List.length_append, List.length_append, List.flatMap_append, List.flatMap_append, flat_one, flat_one]
                      exact HN2.out
                    case measure => simp [intOf]; omega
                · have hzc' : decide (c ≤ z0) = false := decide_eq_false hzc
                  have hne : (z0 != c) = true := by simpa using (by omega : ¬ z0 = c)
                  go_wp2_with (at_builtin; refine wpList_append_seg rfl _ _ 22 rfl W5.heap.size 37 ii _ 3 24 (by kernel_rfl) hii hz0 hz1 hz2 rfl (by omega) _ _ _ rfl (HO1.out.alloc _) (.slice (some ⟨wr.heap.size, 0, none⟩) 1 1) 1 (seC (z0, z1, z2)) rfl (rd_one (t := 37) (heap_alloc_new _ _) rfl) (fun u hu => seC_one [(z0, z1, z2)] u (by simpa using hu)) (by unfold maxLen; omega) (by omega) (by simp; try omega) ?_; intro v1 w1 hown hfr hbk _; have HN1 := Lib.hid hown; have HF1 := Lib.hid (hfr.below (B := W5.heap.size) (by simp; try omega) (fun k hk => (HO1.out.blk_lt hk).1)); have hs1 := hfr.size; simp only [World.size_alloc] at hs1; clear hown hfr hbk)
                  go_roundw
                  case rel =>
                    refine ⟨k + 1, false, by omega, by go_num, rfl, ?_, fun _ j hj => ?_, fun h => (by cases h), (HB.out.alloc hsr _).trans HF1.out⟩
                    · have e1 : outK l (c, q, a) (k + 1) false = oo ++ [(z0, z1, z2)] := by rw [HOT.out, ← HT.out]; exact rfl
                      rw [e1, List.length_append, List.flatMap_append, flat_one]
                      exact HN1.out
                    · by_cases e : j = k
                      · subst e; rw [HZ.out]; simp only; omega
                      · exact HD0.out rfl j (by omega)
                  case measure => simp [intOf]; omega
            · obtain rfl : k = n := by omega
              have hWw : w.heap.size ≤ W5.heap.size := by have := HB2.out.size; omega
              cases d with
              | true =>
                go_wp2_with fail
                go_ret2
                refine ⟨_, by show _ = Ending.returned (.tuple #[_, .int .i64 (putSE l c q)]); rw [E6.out]; rfl, ?_, HAL.out.trans (HB.out.mono hWw)⟩
                have e1 : putO l (c, q, a) = oo := by rw [HPO.out, ← HOO.out]; unfold outK; rw [if_pos rfl, ← HN.out, List.take_length]
                rw [e1]
                exact HO1.out.mono hWw
              | false =>
                have hoT : oo = l := by rw [← HOO.out]; show l.take k = l; rw [← HN.out, List.take_length]
                have HOT := Lib.hid hoT
                have HLow := Lib.hid (take_low (by rw [HN.out]; omega) (HD0.out rfl))
                clear hoT
                go_wp2_with (at_builtin; refine wpList_append_seg rfl _ _ 22 rfl W5.heap.size 37 ii _ 3 24 (by kernel_rfl) hii hz0 hz1 hz2 rfl (by omega) _ _ _ rfl (HO1.out.alloc _) (.slice (some ⟨wr.heap.size, 0, none⟩) 1 1) 1 (seC (c, q, a)) rfl (rd_one (t := 37) (heap_alloc_new _ _) rfl) (fun u hu => seC_one [(c, q, a)] u (by simpa using hu)) (by unfold maxLen; omega) (by omega) (by simp; try omega) ?_; intro v1 w1 hown hfr hbk _; have HN1 := Lib.hid hown; have HF1 := Lib.hid (hfr.below (B := W5.heap.size) (by simp; try omega) (fun k hk => (HO1.out.blk_lt hk).1)); have hs1 := hfr.size; simp only [World.size_alloc] at hs1; clear hown hfr hbk)
                go_ret2
                refine ⟨_, by show _ = Ending.returned (.tuple #[_, .int .i64 (putSE l c q)]); rw [E6.out]; rfl, ?_, HAL.out.trans (((HB.out.alloc hsr _).trans HF1.out).mono hWw)⟩
                have e1 : putO l (c, q, a) = oo ++ [(c, q, a)] := by rw [HPO.out, HOT.out, putS_low (by have := HLow.out; rw [← HN.out, List.take_length] at this; exact this)]
                rw [e1, List.length_append, List.flatMap_append, flat_one]
                exact HN1.out.mono hWw

        · have hx0' : (x1 == 0) = false := by simpa using hx0
          clear hcnd
          go_wp2_with fail
          generalize ((w2.alloc (.cells #[.int .i64 x0, .int .i64 x1, .int .i64 x2] 37)).alloc (.cells #[.int .i64 c, .int .i64 q, .int .i64 a] 37)) = W5 at *
          obtain ⟨B, hB⟩ : ∃ B, w2.heap.size + 1 = B := ⟨_, rfl⟩
          have hW2 : w2.heap.size ≤ W5.heap.size := by have := HBX.out.lt; omega
          rw [hB] at HBX ⊢
          clear hB
          go_loopw [15, 16, 17] (RPutR W5 W5.heap.size l (c, q, a) n) (fun _ _ s17 _ => n - (intOf s17).toNat)
          case atStart => exact ⟨0, false, by omega, rfl, rfl, Own.nil_ _ _ _ _, fun _ j hj => absurd hj (by omega), (fun h => (by cases h)), Below.refl _ _⟩
          case round =>
            obtain ⟨k, d, hk, rfl, rfl, hown, hd0, hd1, hbel⟩ := hrel
            have HO1 := Lib.hid hown
            have HB := Lib.hid hbel
            have HD0 := Lib.hid hd0
            have HD1 := Lib.hid hd1
            have hsr := hbel.size
            have hol := outK_len l (c, q, a) k d
            obtain ⟨oo, hoo⟩ : ∃ oo, outK l (c, q, a) k d = oo := ⟨_, rfl⟩
            have HOO := Lib.hid hoo
            rw [hoo] at HO1 hol
            obtain ⟨Ao, capo, hvo⟩ := HO1.out.slice_
            subst hvo
            clear hown hbel hd0 hd1 hoo
            obtain ⟨y0, y1, y2⟩ := (HBX.out.below' HB.out).three
            by_cases hlt : k < n
            · have hltI : (k : Int) < (n : Int) := by omega
              have hR1 := (HR.out.below HAL.out (Nat.le_refl _)).below HB.out (Nat.le_refl _)
              rw [HN.out] at hR1
              obtain ⟨b, off, hA, hbl⟩ := hR1.addr (by omega)
              subst hA
              obtain ⟨c0, c1, c2⟩ := rd_se hR1 k (by rw [HN.out]; exact hlt)
              obtain ⟨z, hz⟩ : ∃ z, at_ l k = z := ⟨_, rfl⟩
              rw [hz] at c0 c1 c2
              obtain ⟨z0, z1, z2⟩ := z
              simp only at c0 c1 c2
              have HZ := Lib.hid hz
              have HT : Hid (l.take (k + 1) = l.take k ++ [(z0, z1, z2)]) := by rw [take_at (by rw [HN.out]; exact hlt), hz]; exact rfl
              clear hz
              have HRN : Hid (Rd w 3 (.slice (some ⟨b, off, none⟩) n cap) n (l.flatMap seC)) := by have := HR.out; rw [HN.out] at this; exact this
              clear hR1
              cases d with
              | true =>
                have hzc : c < z0 := by
                  obtain ⟨j, hj, hle⟩ := HD1.out rfl
                  have := HML.out.1.ris.lt hj (show k < l.length by rw [HN.out]; exact hlt)
                  rw [HZ.out] at this
                  simp only [key_se] at this
                  simp only at hle
                  omega
                have hne : (z0 != c) = true := by simpa using (by omega : ¬ z0 = c)
                go_wp2_with (at_builtin; refine wpList_append_seg rfl _ _ 22 rfl W5.heap.size 37 ii _ 3 24 (by kernel_rfl) hii hz0 hz1 hz2 rfl (by omega) _ _ _ rfl (HO1.out.alloc _) (.slice (some ⟨wr.heap.size, 0, none⟩) 1 1) 1 (seC (z0, z1, z2)) rfl (rd_one (t := 37) (heap_alloc_new _ _) rfl) (fun u hu => seC_one [(z0, z1, z2)] u (by simpa using hu)) (by unfold maxLen; omega) (by omega) (by simp; try omega) ?_; intro v1 w1 hown hfr hbk _; have HN1 := Lib.hid hown; have HF1 := Lib.hid (hfr.below (B := W5.heap.size) (by simp; try omega) (fun k hk => (HO1.out.blk_lt hk).1)); have hs1 := hfr.size; simp only [World.size_alloc] at hs1; clear hown hfr hbk)
                go_roundw
                case rel =>
                  refine ⟨k + 1, true, by omega, by go_num, rfl, ?_, (fun h => (by cases h)), fun _ => by obtain ⟨j, hj, hle⟩ := HD1.out rfl; exact ⟨j, by omega, hle⟩, (HB.out.alloc hsr _).trans HF1.out⟩
                  have e1 : outK l (c, q, a) (k + 1) true = oo ++ [(z0, z1, z2)] := by unfold outK; rw [if_pos rfl, HT.out, putS_up hzc]; have := HOO.out; unfold outK at this; rw [if_pos rfl] at this; rw [this]
                  rw [e1, List.length_append, List.flatMap_append, flat_one]
                  exact HN1.out
                case measure => simp [intOf]; omega
              | false =>
                have hoT : oo = l.take k := by rw [← HOO.out]; exact rfl
                have HOT := Lib.hid hoT
                have HLow := Lib.hid (take_low (by rw [HN.out]; omega) (HD0.out rfl))
                clear hoT
                by_cases hzc : c ≤ z0
                · by_cases heq : z0 = c
                  · subst heq
                    go_wp2_with (at_builtin; refine wpList_append_seg rfl _ _ 22 rfl W5.heap.size 37 ii _ 3 24 (by kernel_rfl) hii hz0 hz1 hz2 rfl (by omega) _ _ _ rfl (HO1.out.alloc _) (.slice (some ⟨wr.heap.size, 0, none⟩) 1 1) 1 (seC (z0, q, a)) rfl (rd_one (t := 37) (heap_alloc_new _ _) rfl) (fun u hu => seC_one [(z0, q, a)] u (by simpa using hu)) (by unfold maxLen; omega) (by omega) (by simp; try omega) ?_; intro v1 w1 hown hfr hbk _; have HN1 := Lib.hid hown; have HF1 := Lib.hid (hfr.below (B := W5.heap.size) (by simp; try omega) (fun k hk => (HO1.out.blk_lt hk).1)); have hs1 := hfr.size; simp only [World.size_alloc] at hs1; clear hown hfr hbk; obtain ⟨d0, d1, d2⟩ := rd_se ((HRN.out.below HAL.out (Nat.le_refl _)).below ((HB.out.alloc hsr _).trans HF1.out) (Nat.le_refl _)) k (by rw [HN.out]; exact hlt); rw [HZ.out] at d0 d1 d2; simp only at d0 d1 d2; clear c0 c1 c2)
                    go_roundw
                    case rel =>
                      refine ⟨k + 1, true, by omega, by go_num, rfl, ?_, fun h => (by cases h), fun _ => ⟨k, by omega, by rw [HZ.out]; exact Int.le_refl _⟩, (HB.out.alloc hsr _).trans HF1.out⟩
                      have e1 : outK l (z0, q, a) (k + 1) true = oo ++ [(z0, q, a)] := by unfold outK; rw [if_pos rfl, HT.out, putS_same (x := (z0, q, a)) (y := (z0, z1, z2)) rfl, putS_low HLow.out, HOT.out]
                      rw [e1, List.length_append, List.flatMap_append, flat_one]
                      exact HN1.out
                    case measure => simp [intOf]; omega
                  · have hne : (z0 != c) = true := by simpa using heq
                    go_wp2_with (first
                      | (at_builtin; refine wpList_append_seg rfl _ _ 22 rfl W5.heap.size 37 ii _ 3 24 (by kernel_rfl) hii hz0 hz1 hz2 rfl (by omega) _ _ _ rfl (HO1.out.alloc _) (.slice (some ⟨wr.heap.size, 0, none⟩) 1 1) 1 (seC (c, q, a)) rfl (rd_one (t := 37) (heap_alloc_new _ _) rfl) (fun u hu => seC_one [(c, q, a)] u (by simpa using hu)) (by unfold maxLen; omega) (by omega) (by simp; try omega) ?_; intro v1 w1 hown hfr hbk _; have HN1 := Lib.hid hown; have HF1 := Lib.hid (hfr.below (B := W5.heap.size) (by simp; try omega) (fun k hk => (HO1.out.blk_lt hk).1)); have hs1 := hfr.size; simp only [World.size_alloc] at hs1; clear hown hfr hbk; obtain ⟨d0, d1, d2⟩ := rd_se ((HRN.out.below HAL.out (Nat.le_refl _)).below ((HB.out.alloc hsr _).trans HF1.out) (Nat.le_refl _)) k (by rw [HN.out]; exact hlt); rw [HZ.out] at d0 d1 d2; simp only at d0 d1 d2; clear c0 c1 c2)
                      | (at_builtin; refine wpList_append_seg rfl _ _ 22 rfl W5.heap.size 37 ii _ 3 24 (by kernel_rfl) hii hz0 hz1 hz2 rfl (by omega) _ _ _ rfl (HN1.out.alloc _) (.slice (some ⟨w1.heap.size, 0, none⟩) 1 1) 1 (seC (z0, z1, z2)) rfl (rd_one (t := 37) (heap_alloc_new _ _) rfl) (fun u hu => seC_one [(z0, z1, z2)] u (by simpa using hu)) (by unfold maxLen; omega) (by omega) (by simp; try omega) ?_; intro v2 w2 hown hfr hbk _; have HN2 := Lib.hid hown; have HF2 := Lib.hid (hfr.below (B := W5.heap.size) (by simp; try omega) (fun k hk => (HN1.out.blk_lt hk).1)); have hs2 := hfr.size; simp only [World.size_alloc] at hs2; clear hown hfr hbk))
                    go_roundw
                    case rel =>
                      refine ⟨k + 1, true, by omega, by go_num, rfl, ?_, fun h => (by cases h), fun _ => ⟨k, by omega, by rw [HZ.out]; exact hzc⟩, (((HB.out.alloc hsr _).trans HF1.out).alloc (by omega) _).trans HF2.out⟩
                      have e1 : outK l (c, q, a) (k + 1) true = oo ++ [(c, q, a)] ++ [(z0, z1, z2)] := by unfold outK; rw [if_pos rfl, HT.out, putS_up (by show c < z0; omega), putS_low HLow.out, HOT.out]
                      rw [e1, List.length_append, List.length_append, List.flatMap_append, List.flatMap_append, flat_one, flat_one]
                      exact HN2.out
                    case measure => simp [intOf]; omega
                · have hzc' : decide (c ≤ z0) = false := decide_eq_false hzc
                  have hne : (z0 != c) = true := by simpa using (by omega : ¬ z0 = c)
                  go_wp2_with (at_builtin; refine wpList_append_seg rfl _ _ 22 rfl W5.heap.size 37 ii _ 3 24 (by kernel_rfl) hii hz0 hz1 hz2 rfl (by omega) _ _ _ rfl (HO1.out.alloc _) (.slice (some ⟨wr.heap.size, 0, none⟩) 1 1) 1 (seC (z0, z1, z2)) rfl (rd_one (t := 37) (heap_alloc_new _ _) rfl) (fun u hu => seC_one [(z0, z1, z2)] u (by simpa using hu)) (by unfold maxLen; omega) (by omega) (by simp; try omega) ?_; intro v1 w1 hown hfr hbk _; have HN1 := Lib.hid hown; have HF1 := Lib.hid (hfr.below (B := W5.heap.size) (by simp; try omega) (fun k hk => (HO1.out.blk_lt hk).1)); have hs1 := hfr.size; simp only [World.size_alloc] at hs1; clear hown hfr hbk)
                  go_roundw
                  case rel =>
                    refine ⟨k + 1, false, by omega, by go_num, rfl, ?_, fun _ j hj => ?_, fun h => (by cases h), (HB.out.alloc hsr _).trans HF1.out⟩
                    · have e1 : outK l (c, q, a) (k + 1) false = oo ++ [(z0, z1, z2)] := by rw [HOT.out, ← HT.out]; exact rfl
                      rw [e1, List.length_append, List.flatMap_append, flat_one]
                      exact HN1.out
                    · by_cases e : j = k
                      · subst e; rw [HZ.out]; simp only; omega
                      · exact HD0.out rfl j (by omega)
                  case measure => simp [intOf]; omega
            · obtain rfl : k = n := by omega
              have hWw : w.heap.size ≤ W5.heap.size := by have := HB2.out.size; omega
              cases d with
              | true =>
                go_wp2_with fail
                go_ret2
                refine ⟨_, by show _ = Ending.returned (.tuple #[_, .int .i64 (putSE l c q)]); rw [E6.out]; rfl, ?_, HAL.out.trans (HB.out.mono hWw)⟩
                have e1 : putO l (c, q, a) = oo := by rw [HPO.out, ← HOO.out]; unfold outK; rw [if_pos rfl, ← HN.out, List.take_length]
                rw [e1]
                exact HO1.out.mono hWw
              | false =>
                have hoT : oo = l := by rw [← HOO.out]; show l.take k = l; rw [← HN.out, List.take_length]
                have HOT := Lib.hid hoT
                have HLow := Lib.hid (take_low (by rw [HN.out]; omega) (HD0.out rfl))
                clear hoT
                go_wp2_with (at_builtin; refine wpList_append_seg rfl _ _ 22 rfl W5.heap.size 37 ii _ 3 24 (by kernel_rfl) hii hz0 hz1 hz2 rfl (by omega) _ _ _ rfl (HO1.out.alloc _) (.slice (some ⟨wr.heap.size, 0, none⟩) 1 1) 1 (seC (c, q, a)) rfl (rd_one (t := 37) (heap_alloc_new _ _) rfl) (fun u hu => seC_one [(c, q, a)] u (by simpa using hu)) (by unfold maxLen; omega) (by omega) (by simp; try omega) ?_; intro v1 w1 hown hfr hbk _; have HN1 := Lib.hid hown; have HF1 := Lib.hid (hfr.below (B := W5.heap.size) (by simp; try omega) (fun k hk => (HO1.out.blk_lt hk).1)); have hs1 := hfr.size; simp only [World.size_alloc] at hs1; clear hown hfr hbk)
                go_ret2
                refine ⟨_, by show _ = Ending.returned (.tuple #[_, .int .i64 (putSE l c q)]); rw [E6.out]; rfl, ?_, HAL.out.trans (((HB.out.alloc hsr _).trans HF1.out).mono hWw)⟩
                have e1 : putO l (c, q, a) = oo ++ [(c, q, a)] := by rw [HPO.out, HOT.out, putS_low (by have := HLow.out; rw [← HN.out, List.take_length] at this; exact this)]
                rw [e1, List.length_append, List.flatMap_append, flat_one]
                exact HN1.out.mono hWw
  · have he' : (e0 != 0) = true := by simpa using he
    have e6 : putSE l c q = e0 := by unfold putSE; rw [HLK.out]; simp [he]
    have E6 := Lib.hid e6
    clear e6
    go_wp2_with fail
    go_ret2
    refine ⟨_, by show _ = Ending.returned (.tuple #[_, .int .i64 (putSE l c q)]); rw [E6.out]; rfl, ?_, HB1.out⟩
    rw [show putO l (c, q, a) = [] by unfold putO; rw [if_neg (by show ¬ putSE l c q = 0; rw [E6.out]; exact he)]]
    exact Own.nil_ _ _ _ _

end Go.Proofs.Ytjjpoialoabfoaa

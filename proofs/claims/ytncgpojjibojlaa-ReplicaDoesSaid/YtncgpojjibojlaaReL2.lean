/- P10.5 as a plain law: what any op leaves of what was held. No program in sight. -/
import Derived.Test.YtncgpojjibojlaaDoes
namespace Go.Proofs.Ytncgpojjibojlaa
open Go

theorem mayR_okP {l : List Re} (h : mayR l = true) {y z : Re} (hy : y ∈ l) (hz : z ∈ l) (hlt : kR y < kR z) : okP y z := by
  obtain ⟨i, hi, rfl⟩ := mem_at hy
  obtain ⟨j, hj, rfl⟩ := mem_at hz
  have hij : i < j := by
    rcases Nat.lt_trichotomy i j with h1 | h1 | h1
    · exact h1
    · subst h1; omega
    · have := (mayR_ris h).lt h1 hi
      omega
  rw [at_eq hi, at_eq hj]
  exact List.pairwise_iff_getElem.1 ((mayR_iff l).1 h).2 i j hi hj hij

/-- What is asked of a held one behind an op. -/
def stayB (o : Oq) (y : Re) (h : Option Re) : Prop := match h with
  | some x => y.2.1 ≤ x.2.1 ∧ (y.2.1 < x.2.1 → o.1 = 1 ∧ o.2.1.1 = x.1)
  | none => (o.1 = 3 ∧ o.2.1.1 = y.1) ∨ (o.1 = 5 ∧ y.2.2.2.2 = true)
theorem stayB_same (o : Oq) (y x : Re) (h : x.2.1 = y.2.1) : stayB o y (some x) := ⟨by omega, fun h' => by omega⟩
theorem stay_in {o : Oq} {m : List Re} {y : Re} (hm : mayR m = true) (hy : y ∈ m) (ht : y.2.2.2.1 = false) : stayB o y (heldR m y.1) := by
  rw [heldR_find, (findR_some (mayR_ris hm)).2 ⟨hy, rfl, ht⟩]
  exact stayB_same o y y rfl

theorem stays_law {l m : List Re} {o : Oq} (hl : mayR l = true) (h : doR l o = (0, m)) :
    mayR m = true ∧ (o.1 = 0 → l.length < m.length → (m.length : Int) ≤ o.2.2) ∧ ∀ y ∈ l, y.2.2.2.1 = false → stayB o y (heldR m y.1) := by
  obtain ⟨k, x, r⟩ := o
  have hris := mayR_ris hl
  unfold doR at h
  dsimp only at h ⊢
  by_cases h0 : k = 0
  · rw [if_pos h0] at h
    have hm := bgnR_may h
    obtain ⟨e, _, _, _, hroom⟩ := bgnR_ok h
    rw [fairR_of hl] at e hroom
    refine ⟨hm, fun _ hlen => ?_, fun y hy ht => ?_⟩
    · cases hf : findR l x.1 true with
      | none =>
        have h1 := hroom hf
        have h2 := putR_len_le l (x.1, x.2.1, x.2.2.1, true, false)
        rw [← e] at h2
        omega
      | some t =>
        obtain ⟨h1, h2, h3⟩ := (findR_some hris).1 hf
        have h4 := dropR_lt hris h1
        have h5 := putR_len l (x.1, x.2.1, x.2.2.1, true, false)
        have hk : kR t = kR (x.1, x.2.1, x.2.2.1, true, false) := by
          rw [kR_temp]
          have := kR_eq.2 ⟨h2, h3⟩
          simpa [flI] using this
        rw [← hk, ← e] at h5
        omega
    · rw [heldR_find, e, findR_put_other hris _ (fun h => by cases h.2), (findR_some hris).2 ⟨hy, rfl, ht⟩]
      exact stayB_same _ y y rfl
  rw [if_neg h0] at h
  by_cases h1 : k = 1
  · rw [if_pos h1] at h
    have hm := cmtR_may h
    obtain ⟨t, hf, _, e⟩ := cmtR_ok h
    rw [fairR_of hl] at e hf
    obtain ⟨ht1, ht2, ht3⟩ := (findR_some hris).1 hf
    refine ⟨hm, fun h => absurd h h0, fun y hy ht => ?_⟩
    have hyy := (findR_some hris).2 (⟨hy, rfl, ht⟩ : y ∈ l ∧ y.1 = y.1 ∧ y.2.2.2.1 = false)
    by_cases hc : y.1 = x.1
    · have hfm : findR m t.1 false = some (t.1, t.2.1, t.2.2.1, false, t.2.2.2.2) := by
        rw [e]
        exact findR_put (dropR_ris hris (2 * x.1 + 1)) (t.1, t.2.1, t.2.2.1, false, t.2.2.2.2)
      have hok : okP y t := mayR_okP hl hy ht1 (by rw [kR_eq.2 ⟨rfl, ht⟩, kR_eq.2 ⟨rfl, ht3⟩]; simp [flI]; omega)
      have hv := hok.2 (by omega)
      rw [heldR_find, show y.1 = t.1 by omega, hfm]
      refine ⟨?_, fun _ => ⟨h1, ?_⟩⟩
      · show y.2.1 ≤ t.2.1
        omega
      · show x.1 = t.1
        omega
    · have h5 : findR (dropR l (2 * x.1 + 1)) y.1 false = findR l y.1 false := findR_drop_other (s := true) hris (fun h => hc h.1.symm)
      rw [heldR_find, e, findR_put_other (dropR_ris hris _) _ (fun h => hc (by have := h.1; simp only at this; omega)), h5, hyy]
      exact stayB_same _ y y rfl
  rw [if_neg h1] at h
  by_cases h2 : k = 2
  · rw [if_pos h2] at h
    have e := (congrArg Prod.snd h).symm
    simp only [abtR, fairR_of hl] at e
    have hm : mayR m = true := by rw [e]; exact mayR_sub hl List.filter_sublist
    refine ⟨hm, fun h => absurd h h0, fun y hy ht => stay_in hm ?_ ht⟩
    rw [e]
    exact List.mem_filter.2 ⟨hy, by simp [ht]⟩
  rw [if_neg h2] at h
  by_cases h3 : k = 3
  · rw [if_pos h3] at h
    obtain ⟨_, e, hm⟩ := removes_law hl h
    refine ⟨hm, fun h => absurd h h0, fun y hy ht => ?_⟩
    by_cases hc : y.1 = x.1
    · have : findR m y.1 false = none := findR_none.2 fun z hz hh => by
        rw [e] at hz
        have := (List.mem_filter.1 hz).2
        simp [hh.1, hc, hh.2] at this
      rw [heldR_find, this]
      exact .inl ⟨h3, hc.symm⟩
    · refine stay_in hm ?_ ht
      rw [e]
      exact List.mem_filter.2 ⟨hy, by simp [hc]⟩
  rw [if_neg h3] at h
  by_cases h4 : k = 4
  · rw [if_pos h4] at h
    have hm := splR_may h
    obtain ⟨_, e⟩ := splR_ok h
    rw [fairR_of hl] at e
    refine ⟨hm, fun h => absurd h h0, fun y hy ht => ?_⟩
    have hin : (if kR y = 2 * x.1 then badOf y else y) ∈ m := by rw [e]; exact List.mem_map.2 ⟨y, hy, rfl⟩
    have h1' : (if kR y = 2 * x.1 then badOf y else y).1 = y.1 := by split <;> rfl
    have h2' : (if kR y = 2 * x.1 then badOf y else y).2.2.2.1 = false := by split <;> exact ht
    have h3' : (if kR y = 2 * x.1 then badOf y else y).2.1 = y.2.1 := by split <;> rfl
    rw [heldR_find, (findR_some (mayR_ris hm)).2 ⟨hin, h1', h2'⟩]
    exact stayB_same _ y _ h3'
  rw [if_neg h4] at h
  by_cases h5 : k = 5
  · rw [if_pos h5] at h
    have e := (congrArg Prod.snd h).symm
    simp only [scrR, fairR_of hl] at e
    have hm : mayR m = true := by rw [e]; exact mayR_sub hl List.filter_sublist
    refine ⟨hm, fun h => absurd h h0, fun y hy ht => ?_⟩
    cases hb : y.2.2.2.2 with
    | false =>
      refine stay_in hm ?_ ht
      rw [e]
      exact List.mem_filter.2 ⟨hy, by simp [hb]⟩
    | true =>
      have hyy := (findR_some hris).2 (⟨hy, rfl, ht⟩ : y ∈ l ∧ y.1 = y.1 ∧ y.2.2.2.1 = false)
      have : findR m y.1 false = none := findR_none.2 fun z hz hh => by
        rw [e] at hz
        obtain ⟨hz1, hz2⟩ := List.mem_filter.1 hz
        have hzz := (findR_some hris).2 ⟨hz1, hh⟩
        rw [hyy] at hzz
        injection hzz with hzz
        rw [← hzz, hb] at hz2
        simp at hz2
      rw [heldR_find, this]
      exact .inr ⟨h5, hb⟩
  rw [if_neg h5] at h
  have e := (congrArg Prod.snd h).symm
  simp only [rstR, fairR_of hl] at e
  have hm : mayR m = true := by rw [e]; exact mayR_sub hl List.filter_sublist
  refine ⟨hm, fun h => absurd h h0, fun y hy ht => stay_in hm ?_ ht⟩
  rw [e]
  exact List.mem_filter.2 ⟨hy, by simp [ht]⟩
theorem doR_bad {l : List Re} {o : Oq} : (doR l o).1 ≠ 0 → (doR l o).2 = [] := by
  unfold doR
  by_cases h0 : o.1 = 0
  · rw [if_pos h0]; exact bgnR_bad
  rw [if_neg h0]
  by_cases h1 : o.1 = 1
  · rw [if_pos h1]; exact cmtR_bad
  rw [if_neg h1]
  by_cases h2 : o.1 = 2
  · rw [if_pos h2]; exact fun h => absurd rfl h
  rw [if_neg h2]
  by_cases h3 : o.1 = 3
  · rw [if_pos h3]; exact rmvR_bad
  rw [if_neg h3]
  by_cases h4 : o.1 = 4
  · rw [if_pos h4]; exact splR_bad
  rw [if_neg h4]
  by_cases h5 : o.1 = 5
  · rw [if_pos h5]; exact fun h => absurd rfl h
  rw [if_neg h5]
  exact fun h => absurd rfl h
theorem doR_len (l : List Re) (o : Oq) : (doR l o).2.length ≤ l.length + 1 := by
  have hf := fairR_len l
  unfold doR
  repeat' split
  · exact bgnR_len l _ _
  · exact cmtR_len l _ _
  · have h2 : (abtR l o.2.1.1).length ≤ (fairR l).length := List.length_filter_le _ _
    simp only
    omega
  · unfold rmvR
    split
    · have h2 : ((fairR l).filter (fun z => !(z.1 == o.2.1.1 && !z.2.2.2.1))).length ≤ (fairR l).length := List.length_filter_le _ _
      simp only
      omega
    · simp
  · unfold splR
    split
    · simp only [List.length_map]; omega
    · simp
  · have h2 : (scrR l).length ≤ (fairR l).length := List.length_filter_le _ _
    simp only
    omega
  · have h2 : (rstR l).length ≤ (fairR l).length := List.length_filter_le _ _
    simp only
    omega

end Go.Proofs.Ytncgpojjibojlaa

/- The plain laws of many. -/
import Derived.Test.YthmifcbhbcjeiaaManyM
namespace Go.Proofs.Ythmifcbhbcjeiaa
open Go Go.RowKit

section
variable {l : List Nq} {al : List Int} {ld : List Ld} {ho : List Int}
theorem load_more (ld : List Ld) (t z : Int) (h : z ≠ t) : loadL (moreD ld t) z = loadL ld z := by
  unfold loadL moreD
  rw [List.find?_cons]
  simp only
  rw [show (t == z) = false by simpa using fun e => h e.symm]
theorem mayT_ld {ld' : List Ld} {z : Int} (h : loadL ld' z = loadL ld z) : mayT l al ld' ho z = mayT l al ld ho z := by
  unfold mayT
  rw [h]
theorem mayT_not {z : Int} (h : mayT l al ld ho z = true) : hasB ho z = false := by
  obtain ⟨_, _, _, _, h, _⟩ := (mayT_iff _ _ _ _ _).1 h
  exact h
theorem mayT_less {ho' : List Int} {z : Int} (h : mayT l al ld (ho ++ ho') z = true) : mayT l al ld ho z = true := by
  obtain ⟨x, h1, h2, h3, h4, h5⟩ := (mayT_iff _ _ _ _ _).1 h
  refine (mayT_iff _ _ _ _ _).2 ⟨x, h1, h2, h3, ?_, h5⟩
  cases hb : hasB ho z with
  | false => rfl
  | true =>
    have : hasB (ho ++ ho') z = true := hasB_iff.2 (List.mem_append.2 (.inl (hasB_iff.1 hb)))
    rw [this] at h4
    cases h4
theorem not_snoc {ho' : List Int} {t z : Int} (h : hasB ((ho ++ [t]) ++ ho') z = false) : z ≠ t := fun e => by
  have : hasB ((ho ++ [t]) ++ ho') z = true := hasB_iff.2 (by simp [e])
  rw [this] at h
  cases h
theorem many_len (f : Nat) : ∀ (ld : List Ld) (ho : List Int), (manyF l al f ld ho).length ≤ f := by
  induction f with
  | zero => intro ld ho; exact Nat.le_refl _
  | succ f ih =>
    intro ld ho
    unfold manyF
    split
    · simp
    · simp only [List.length_cons]
      exact Nat.succ_le_succ (ih _ _)
theorem many_free (f : Nat) : ∀ (ld : List Ld) (ho : List Int), (manyF l al f ld ho).length ≤ freeN l ho := by
  induction f with
  | zero => intro ld ho; exact Nat.zero_le _
  | succ f ih =>
    intro ld ho
    unfold manyF
    cases ht : tgtL l al ld ho with
    | none => exact Nat.zero_le _
    | some a =>
      have h1 := ih (moreD ld a.1) (ho ++ [a.1])
      have h2 := tgtL_free ht
      simp only [List.length_cons]
      omega
theorem many_few (f : Nat) (ld : List Ld) (ho : List Int) : (manyF l al f ld ho).length ≤ l.length := Nat.le_trans (many_free f ld ho) (freeN_le l ho)
theorem many_at (f : Nat) : ∀ (ld : List Ld) (ho : List Int) (i : Nat), i < (manyF l al f ld ho).length → mayT l al ld (ho ++ (manyF l al f ld ho).take i) (at_ (manyF l al f ld ho) i) = true := by
  induction f with
  | zero => intro ld ho i hi; exact absurd hi (by simp [manyF])
  | succ f ih =>
    intro ld ho i hi
    unfold manyF at hi ⊢
    cases ht : tgtL l al ld ho with
    | none => simp [ht] at hi
    | some a =>
      simp only [ht] at hi ⊢
      cases i with
      | zero =>
        simp only [List.take_zero, List.append_nil]
        exact (tgtL_ok ht).2
      | succ i =>
        have := ih (moreD ld a.1) (ho ++ [a.1]) i (by simpa using hi)
        have e : at_ (a.1 :: manyF l al f (moreD ld a.1) (ho ++ [a.1])) (i + 1) = at_ (manyF l al f (moreD ld a.1) (ho ++ [a.1])) i := by simp [at_]
        rw [e]
        have hne := not_snoc (mayT_not this)
        rw [mayT_ld (load_more ld a.1 _ hne)] at this
        simpa using this
theorem many_end (f : Nat) : ∀ (ld : List Ld) (ho : List Int), (manyF l al f ld ho).length < f → ∀ z, mayT l al ld (ho ++ manyF l al f ld ho) z = false := by
  induction f with
  | zero => intro ld ho h; exact absurd h (by omega)
  | succ f ih =>
    intro ld ho h z
    unfold manyF at h ⊢
    cases ht : tgtL l al ld ho with
    | none =>
      simp only [List.append_nil]
      exact tgtL_none ht z
    | some a =>
      simp only [ht, List.length_cons] at h ⊢
      have := ih (moreD ld a.1) (ho ++ [a.1]) (by omega) z
      cases hm : mayT l al ld (ho ++ a.1 :: manyF l al f (moreD ld a.1) (ho ++ [a.1])) z with
      | false => rfl
      | true =>
        have e : ho ++ a.1 :: manyF l al f (moreD ld a.1) (ho ++ [a.1]) = (ho ++ [a.1]) ++ manyF l al f (moreD ld a.1) (ho ++ [a.1]) := by simp
        rw [e] at hm
        have hne := not_snoc (mayT_not hm)
        rw [mayT_ld (load_more ld a.1 _ hne), hm] at this
        cases this
theorem many_mem {f : Nat} {z : Int} (h : z ∈ manyF l al f ld ho) : mayT l al ld ho z = true := by
  obtain ⟨i, hi, rfl⟩ := mem_at h
  exact mayT_less (many_at f ld ho i hi)
theorem many_first (f : Nat) : ((manyF l al (f + 1) ld ho).length = 0 ↔ tgtL l al ld ho = none) ∧ ∀ a, tgtL l al ld ho = some a → at_ (manyF l al (f + 1) ld ho) 0 = a.1 := by
  unfold manyF
  cases tgtL l al ld ho with
  | none => exact ⟨by simp, fun a h => by cases h⟩
  | some a => exact ⟨by simp, fun b h => by cases h; rfl⟩
theorem many_next (f : Nat) : ∀ (ld : List Ld) (ho : List Int), (manyF l al f ld ho).length ≤ (manyF l al (f + 1) ld ho).length ∧ (manyF l al (f + 1) ld ho).length ≤ (manyF l al f ld ho).length + 1 ∧ ∀ i, i < (manyF l al f ld ho).length → at_ (manyF l al f ld ho) i = at_ (manyF l al (f + 1) ld ho) i := by
  induction f with
  | zero => intro ld ho; exact ⟨by simp [manyF], many_len 1 ld ho, fun i hi => absurd hi (by simp [manyF])⟩
  | succ f ih =>
    intro ld ho
    rw [manyF, manyF.eq_def l al (f + 1 + 1)]
    simp only
    cases tgtL l al ld ho with
    | none => exact ⟨Nat.le_refl _, Nat.le_succ _, fun i hi => absurd hi (by simp)⟩
    | some a =>
      obtain ⟨h1, h2, h3⟩ := ih (moreD ld a.1) (ho ++ [a.1])
      refine ⟨by simp only [List.length_cons]; omega, by simp only [List.length_cons]; omega, fun i hi => ?_⟩
      cases i with
      | zero => rfl
      | succ i =>
        have := h3 i (by simpa using hi)
        simpa [at_] using this
end

end Go.Proofs.Ythmifcbhbcjeiaa

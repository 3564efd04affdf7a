/- The heap, in plain lists: what moving one up or down does. No program in sight. -/
import Derived.Test.YtflndnbjdhbppaaUrg
namespace Go.Proofs.Ytflndnbjdhbppaa
open Go

abbrev Nd := Int × Int × Int
def nlt (x y : Nd) : Prop := x.2.2 < y.2.2 ∨ (x.2.2 = y.2.2 ∧ (x.2.1 < y.2.1 ∨ (x.2.1 = y.2.1 ∧ x.1 < y.1)))
def urgN (x y : Nd) : Bool := urg x.1 x.2.1 x.2.2 y.1 y.2.1 y.2.2
theorem cmpI_neg (x y : Int) : cmpI x y < 0 ↔ x < y := by unfold cmpI; split <;> (try split) <;> omega
theorem cmpI_zero (x y : Int) : cmpI x y = 0 ↔ x = y := by unfold cmpI; split <;> (try split) <;> omega
theorem urgN_iff (x y : Nd) : urgN x y = true ↔ nlt x y := by
  unfold urgN urg
  rw [decide_eq_true_iff]
  unfold ordI nlt
  simp only [orI]
  by_cases h1 : cmpI x.2.2 y.2.2 = 0
  · rw [if_pos h1]
    have e1 := (cmpI_zero _ _).1 h1
    by_cases h2 : cmpI x.2.1 y.2.1 = 0
    · rw [if_pos h2]
      have e2 := (cmpI_zero _ _).1 h2
      by_cases h3 : cmpI x.1 y.1 = 0
      · rw [if_pos h3]
        have e3 := (cmpI_zero _ _).1 h3
        omega
      · rw [if_neg h3, cmpI_neg]
        omega
    · rw [if_neg h2, cmpI_neg]
      have := mt (cmpI_zero _ _).2 h2
      omega
  · rw [if_neg h1, cmpI_neg]
    have := mt (cmpI_zero _ _).2 h1
    omega
theorem urgN_false (x y : Nd) : urgN x y = false ↔ ¬ nlt x y := by rw [← urgN_iff]; cases urgN x y <;> simp
theorem nlt_irr (x : Nd) : ¬ nlt x x := by unfold nlt; omega
theorem nlt_asym {x y : Nd} (h : nlt x y) : ¬ nlt y x := by unfold nlt at *; omega
theorem nle_trans {x y z : Nd} (h : ¬ nlt x y) (k : ¬ nlt y z) : ¬ nlt x z := by unfold nlt at *; omega
theorem nlt_tri {x y : Nd} (h : ¬ nlt x y) (k : ¬ nlt y x) : x = y := by
  obtain ⟨a, b, c⟩ := x
  obtain ⟨a', b', c'⟩ := y
  unfold nlt at *
  simp only at h k
  have : a = a' ∧ b = b' ∧ c = c' := by omega
  simp [this]

def gt (d : List Nd) (i : Nat) : Nd := d.getD i (0, 0, 0)
def sw (d : List Nd) (i j : Nat) : List Nd := (d.set i (gt d j)).set j (gt d i)
theorem sw_len (d : List Nd) (i j : Nat) : (sw d i j).length = d.length := by simp [sw]
theorem gt_get {d : List Nd} {i : Nat} (h : i < d.length) : d[i]? = some (gt d i) := by simp [gt, h]
theorem gt_sw (d : List Nd) (i j k : Nat) (hi : i < d.length) (hj : j < d.length) : gt (sw d i j) k = if k = j then gt d i else if k = i then gt d j else gt d k := by
  unfold sw
  simp only [gt, List.getD, List.getElem?_set, List.length_set]
  by_cases h1 : j = k
  · subst h1; simp [hj, hi]
  · by_cases h2 : i = k
    · subst h2
      have : ¬ i = j := by omega
      simp [hi, h1, this]
    · have a1 : ¬ k = j := by omega
      have a2 : ¬ k = i := by omega
      simp [h1, h2, a1, a2]
theorem sw_perm (d : List Nd) (i j : Nat) (hi : i < d.length) (hj : j < d.length) : (sw d i j).Perm d := by
  have h := (Array.swap_perm (xs := d.toArray) (i := i) (j := j) (by simpa using hi) (by simpa using hj)).toList
  have e : (d.toArray.swap i j (by simpa using hi) (by simpa using hj)).toList = sw d i j := by
    simp [Array.swap, sw, gt, hi, hj]
  rw [e] at h
  simpa using h

def HO (d : List Nd) : Prop := ∀ k, 0 < k → k < d.length → ¬ nlt (gt d k) (gt d ((k - 1) / 2))
def UpI (d : List Nd) (i : Nat) : Prop := i < d.length ∧ (∀ k, 0 < k → k < d.length → k ≠ i → ¬ nlt (gt d k) (gt d ((k - 1) / 2))) ∧
  (∀ k, 0 < k → k < d.length → (k - 1) / 2 = i → 0 < i → ¬ nlt (gt d k) (gt d ((i - 1) / 2)))
def DnI (d : List Nd) (i : Nat) : Prop := (∀ k, 0 < k → k < d.length → (k - 1) / 2 ≠ i → ¬ nlt (gt d k) (gt d ((k - 1) / 2))) ∧
  (∀ k, 0 < k → k < d.length → (k - 1) / 2 = i → 0 < i → ¬ nlt (gt d k) (gt d ((i - 1) / 2)))

theorem gt_append (d : List Nd) (x : Nd) (k : Nat) (h : k < d.length) : gt (d ++ [x]) k = gt d k := by simp [gt, List.getElem?_append, h]
theorem up_start (d : List Nd) (x : Nd) (h : HO d) : UpI (d ++ [x]) d.length := by
  refine ⟨by simp, fun k hk hl hn => ?_, fun k hk hl hp h0 => ?_⟩
  · have h1 : k < d.length := by simp at hl; omega
    rw [gt_append _ _ _ h1, gt_append _ _ _ (by omega)]
    exact h k hk h1
  · simp at hl
    omega
theorem up_stop {d : List Nd} {i : Nat} (h : UpI d i) (hs : i = 0 ∨ ¬ nlt (gt d i) (gt d ((i - 1) / 2))) : HO d := by
  intro k hk hl
  by_cases e : k = i
  · subst e
    rcases hs with h0 | h0
    · omega
    · exact h0
  · exact h.2.1 k hk hl e
theorem up_step {d : List Nd} {i : Nat} (h : UpI d i) (h0 : 0 < i) (hl : nlt (gt d i) (gt d ((i - 1) / 2))) : UpI (sw d i ((i - 1) / 2)) ((i - 1) / 2) := by
  obtain ⟨hi, h1, h2⟩ := h
  have hp : (i - 1) / 2 < i := by omega
  refine ⟨by rw [sw_len]; omega, fun k hk hkl hn => ?_, fun k hk hkl hpk h0' => ?_⟩
  · rw [sw_len] at hkl
    rw [gt_sw _ _ _ _ hi (by omega), gt_sw _ _ _ _ hi (by omega), if_neg hn]
    by_cases e : k = i
    · subst e
      rw [if_pos rfl, if_pos rfl]
      exact nlt_asym hl
    · rw [if_neg e]
      by_cases e1 : (k - 1) / 2 = (i - 1) / 2
      · rw [if_pos e1]
        have := h1 k hk hkl e
        rw [e1] at this
        exact fun hh => this (by
          have t := nle_trans (x := gt d k) (y := gt d i) (z := gt d ((i - 1) / 2))
          rcases Classical.em (nlt (gt d k) (gt d ((i - 1) / 2))) with g | g
          · exact g
          · exact absurd hl (by
              have := nlt_asym hh
              exact fun hl => g (by
                unfold nlt at *
                omega)))
      · rw [if_neg e1]
        by_cases e2 : (k - 1) / 2 = i
        · rw [if_pos e2]
          exact h2 k hk hkl e2 h0
        · rw [if_neg e2]
          exact h1 k hk hkl e
  · rw [sw_len] at hkl
    have hpp : ((i - 1) / 2 - 1) / 2 < (i - 1) / 2 := by omega
    rw [gt_sw _ _ _ _ hi (by omega), gt_sw _ _ _ _ hi (by omega), if_neg (by omega : ¬ k = (i - 1) / 2), if_neg (by omega : ¬ ((i - 1) / 2 - 1) / 2 = (i - 1) / 2), if_neg (by omega : ¬ ((i - 1) / 2 - 1) / 2 = i)]
    have hq := h1 ((i - 1) / 2) h0' (by omega) (by omega)
    by_cases e : k = i
    · subst e
      rw [if_pos rfl]
      exact hq
    · rw [if_neg e]
      have := h1 k hk hkl e
      rw [hpk] at this
      exact nle_trans this hq

theorem HO_min {d : List Nd} (h : HO d) : ∀ k, k < d.length → ¬ nlt (gt d k) (gt d 0) := by
  intro k
  induction k using Nat.strongRecOn with
  | _ k ih =>
    intro hk
    by_cases e : k = 0
    · subst e; exact nlt_irr _
    · exact nle_trans (h k (by omega) hk) (ih ((k - 1) / 2) (by omega) (by omega))

theorem dn_start {d : List Nd} {n : Nat} (h : HO d) (hn : d.length = n + 1) : DnI ((d.set 0 (gt d n)).take n) 0 := by
  have hg : ∀ k, 0 < k → k < n → gt ((d.set 0 (gt d n)).take n) k = gt d k := fun k hk hl => by
    have : ¬ 0 = k := by omega
    simp [gt, List.getElem?_take, hl, List.getElem?_set, this]
  refine ⟨fun k hk hl hp => ?_, fun k hk hl hp h0 => by omega⟩
  simp [hn] at hl
  rw [hg k hk (by omega), hg _ (by omega) (by omega)]
  exact h k hk (by omega)

/-- What is found to be the least of one and those that hang on it. -/
structure LeastOf (d : List Nd) (i l : Nat) : Prop where
  lt : l < d.length
  is : l = i ∨ l = 2 * i + 1 ∨ l = 2 * i + 2
  le : ∀ k, 0 < k → k < d.length → (k - 1) / 2 = i → ¬ nlt (gt d k) (gt d l)
  less : l ≠ i → nlt (gt d l) (gt d i)

theorem dn_stop {d : List Nd} {i : Nat} (h : DnI d i) (hl : LeastOf d i i) : HO d := by
  intro k hk hkl
  by_cases e : (k - 1) / 2 = i
  · rw [e]; exact hl.le k hk hkl e
  · exact h.1 k hk hkl e
theorem dn_step {d : List Nd} {i l : Nat} (h : DnI d i) (hi : i < d.length) (hl : LeastOf d i l) (hne : l ≠ i) : DnI (sw d i l) l := by
  have hll := hl.lt
  have hless := hl.less hne
  have his := hl.is
  refine ⟨fun k hk hkl hp => ?_, fun k hk hkl hp h0 => ?_⟩
  · rw [sw_len] at hkl
    rw [gt_sw _ _ _ _ hi hll, gt_sw _ _ _ _ hi hll, if_neg (show ¬ (k - 1) / 2 = l from hp)]
    by_cases e : k = l
    · subst e
      rw [if_pos rfl, if_pos (by omega)]
      exact nlt_asym hless
    · rw [if_neg e]
      by_cases e2 : (k - 1) / 2 = i
      · rw [if_pos e2]
        have hki : ¬ k = i := by omega
        rw [if_neg hki]
        exact hl.le k hk hkl e2
      · rw [if_neg e2]
        by_cases e3 : k = i
        · subst e3
          rw [if_pos rfl]
          exact h.2 l (by omega) hll (by omega) hk
        · rw [if_neg e3]
          exact h.1 k hk hkl e2
  · rw [sw_len] at hkl
    have e1 : (l - 1) / 2 = i := by omega
    rw [e1, gt_sw _ _ _ _ hi hll, gt_sw _ _ _ _ hi hll, if_neg (show ¬ k = l by omega), if_neg (show ¬ k = i by omega), if_neg (show ¬ i = l by omega), if_pos rfl]
    have := h.1 k hk hkl (by omega)
    rw [hp] at this
    exact this

theorem least_of {d : List Nd} {i m l : Nat} (hi : i < d.length) (h1 : (2 * i + 1 < d.length ∧ nlt (gt d (2 * i + 1)) (gt d i)) ∧ m = 2 * i + 1 ∨ ¬ (2 * i + 1 < d.length ∧ nlt (gt d (2 * i + 1)) (gt d i)) ∧ m = i)
    (h2 : (2 * i + 2 < d.length ∧ nlt (gt d (2 * i + 2)) (gt d m)) ∧ l = 2 * i + 2 ∨ ¬ (2 * i + 2 < d.length ∧ nlt (gt d (2 * i + 2)) (gt d m)) ∧ l = m) : LeastOf d i l := by
  have hk : ∀ k, 0 < k → (k - 1) / 2 = i → k = 2 * i + 1 ∨ k = 2 * i + 2 := fun k hk hp => by omega
  have tr : ∀ {x y z : Nd}, nlt x y → nlt y z → nlt x z := fun {x y z} a b => by unfold nlt at *; omega
  rcases h1 with ⟨⟨a1, a2⟩, rfl⟩ | ⟨a1, rfl⟩ <;> rcases h2 with ⟨⟨b1, b2⟩, rfl⟩ | ⟨b1, rfl⟩
  · refine ⟨b1, .inr (.inr rfl), fun k h0 hl hp => ?_, fun _ => tr b2 a2⟩
    rcases hk k h0 hp with rfl | rfl
    · exact nlt_asym b2
    · exact nlt_irr _
  · refine ⟨a1, .inr (.inl rfl), fun k h0 hl hp => ?_, fun _ => a2⟩
    rcases hk k h0 hp with rfl | rfl
    · exact nlt_irr _
    · exact fun h => b1 ⟨hl, h⟩
  · refine ⟨b1, .inr (.inr rfl), fun k h0 hl hp => ?_, fun _ => b2⟩
    rcases hk k h0 hp with rfl | rfl
    · exact nle_trans (fun h => a1 ⟨hl, h⟩) (nlt_asym b2)
    · exact nlt_irr _
  · refine ⟨hi, .inl rfl, fun k h0 hl hp => ?_, fun h => absurd rfl h⟩
    rcases hk k h0 hp with rfl | rfl
    · exact fun h => a1 ⟨hl, h⟩
    · exact fun h => b1 ⟨hl, h⟩

theorem take_perm {d : List Nd} {n : Nat} (hn : d.length = n + 1) {d' : List Nd} (hp : d'.Perm ((d.set 0 (gt d n)).take n)) : (gt d 0 :: d').Perm d := by
  obtain ⟨x, t, rfl⟩ : ∃ x t, d = x :: t := by
    cases d with
    | nil => simp at hn
    | cons x t => exact ⟨x, t, rfl⟩
  simp only [List.length_cons, Nat.add_right_cancel_iff] at hn
  have e0 : gt (x :: t) 0 = x := rfl
  rw [e0]
  refine List.Perm.cons x (hp.trans ?_)
  rcases Nat.eq_zero_or_pos n with h0 | h0
  · subst h0
    have : t = [] := List.eq_nil_of_length_eq_zero hn
    simp [this]
  · have ht : t ≠ [] := fun e => by rw [e] at hn; simp at hn; omega
    have e1 : gt (x :: t) n = t.getLast ht := by
      obtain ⟨m, rfl⟩ : ∃ m, n = m + 1 := ⟨n - 1, by omega⟩
      simp only [gt, List.getD_cons_succ, List.getLast_eq_getElem, hn]
      have : m < t.length := by omega
      simp [this]
    obtain ⟨m, rfl⟩ : ∃ m, n = m + 1 := ⟨n - 1, by omega⟩
    rw [e1, List.set_cons_zero, List.take_succ_cons]
    have e2 : t = t.take m ++ [t.getLast ht] := by
      have := List.dropLast_concat_getLast ht
      rw [List.dropLast_eq_take, hn] at this
      exact this.symm
    have e3 : (t.getLast ht :: t.take m).Perm (t.take m ++ [t.getLast ht]) := (List.perm_append_comm (l₁ := [t.getLast ht]))
    rw [← e2] at e3
    exact e3

end Go.Proofs.Ytflndnbjdhbppaa

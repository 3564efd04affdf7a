/- Which replica may go, and which ones do: in plain words. No program in sight. -/
import Derived.Test.YtflndnbjdhbppaaNodesM
namespace Go.Proofs.Ytflndnbjdhbppaa
open Go

def woL (h : List Int) (n : Int) : List Int := h.filter (fun z => z != n)
theorem woL_mem {h : List Int} {n z : Int} : z ∈ woL h n ↔ z ∈ h ∧ z ≠ n := by simp [woL]
theorem woL_nodup {h : List Int} (hn : h.Nodup) (n : Int) : (woL h n).Nodup := hn.sublist List.filter_sublist
theorem woL_len_lt {h : List Int} {n : Int} (hn : n ∈ h) : (woL h n).length < h.length :=
  Nat.lt_of_le_of_ne (List.length_filter_le _ _) (fun e => by
    have := List.length_filter_eq_length_iff.1 e n hn
    simp at this)
theorem woL_len {h : List Int} (hd : h.Nodup) {n : Int} (hn : n ∈ h) : (woL h n).length + 1 = h.length := by
  have e : woL h n = h.erase n := by rw [hd.erase_eq_filter]; rfl
  rw [e, List.length_erase_of_mem hn]
  have := List.length_pos_of_mem hn
  omega
theorem woL_filter (p : Int → Bool) (h : List Int) (n : Int) : (woL h n).filter p = woL (h.filter p) n := by
  unfold woL
  rw [List.filter_filter, List.filter_filter]
  congr 1
  funext z
  exact Bool.and_comm _ _
theorem woL_not {h : List Int} {n : Int} (hn : n ∉ h) : woL h n = h := List.filter_eq_self.2 (fun z hz => by
  simp only [bne_iff_ne, ne_eq]
  rintro rfl
  exact hn hz)

def maxF (bt : Int → Int → Bool) : List Int → Int
  | [] => 0
  | x :: l => l.foldl (fun b y => if bt y b then y else b) x
theorem maxF_fold_mem (bt : Int → Int → Bool) (l : List Int) : ∀ x, l.foldl (fun b y => if bt y b then y else b) x ∈ x :: l := by
  induction l with
  | nil => intro x; simp
  | cons y l ih =>
    intro x
    rw [List.foldl_cons]
    split
    · have := ih y
      rcases List.mem_cons.1 this with h | h
      · rw [h]; simp
      · simp [h]
    · have := ih x
      rcases List.mem_cons.1 this with h | h
      · rw [h]; simp
      · simp [h]
theorem maxF_mem {bt : Int → Int → Bool} {l : List Int} (h : l ≠ []) : maxF bt l ∈ l := by
  cases l with
  | nil => exact absurd rfl h
  | cons x l => exact maxF_fold_mem bt l x
theorem maxF_step (bt : Int → Int → Bool) (l : List Int) (k : Nat) (h0 : 0 < k) (hk : k < l.length) : maxF bt (l.take (k + 1)) = if bt (at_ l k) (maxF bt (l.take k)) then at_ l k else maxF bt (l.take k) := by
  rw [take_at hk]
  cases e : l.take k with
  | nil =>
    have := congrArg List.length e
    rw [List.length_take, List.length_nil] at this
    omega
  | cons x t =>
    show (t ++ [at_ l k]).foldl (fun b y => if bt y b then y else b) x = _
    rw [List.foldl_append]
    rfl
theorem maxF_one (bt : Int → Int → Bool) (l : List Int) (h : 0 < l.length) : maxF bt (l.take 1) = at_ l 0 := by
  cases l with
  | nil => simp at h
  | cons x t => rfl
/-- Where some property makes better, and the best one lacks it, all lack it. -/
theorem maxF_lacks {bt : Int → Int → Bool} {s : Int → Bool} (hbt : ∀ x y, bt x y = true → s y = true → s x = true) (hbt2 : ∀ x y, s x = true → s y = false → bt x y = true) {l : List Int} (h : s (maxF bt l) = false) : ∀ y ∈ l, s y = false := by
  have key : ∀ (l : List Int) (x : Int), s (l.foldl (fun b y => if bt y b then y else b) x) = false → ∀ y ∈ x :: l, s y = false := by
    intro l
    induction l with
    | nil => intro x hx y hy; simp at hy; rw [hy]; exact hx
    | cons z l ih =>
      intro x hx y hy
      rw [List.foldl_cons] at hx
      by_cases hc : bt z x = true
      · rw [if_pos hc] at hx
        have h1 := ih z hx
        have hz := h1 z (by simp)
        rcases List.mem_cons.1 hy with rfl | hy
        · cases e : s y with
          | false => rfl
          | true => rw [hbt z y hc e] at hz; cases hz
        · exact h1 y hy
      · rw [if_neg hc] at hx
        have h1 := ih x hx
        have hxx := h1 x (by simp)
        rcases List.mem_cons.1 hy with rfl | hy
        · exact hxx
        · rcases List.mem_cons.1 hy with rfl | hy
          · cases e : s y with
            | false => rfl
            | true => exact absurd (hbt2 y x e hxx) hc
          · exact h1 y (by simp [hy])
  cases l with
  | nil => intro y hy; simp at hy
  | cons x l => exact key l x h

section
variable (G I : Int → Bool) (bt : List Int → Int → Int → Bool) (want : Int)

def excL (h : List Int) : Option Int :=
  if want < 1 ∨ ((h.filter G).length : Int) < want then none
  else match h.filter I with
    | x :: _ => some x
    | [] => if ((h.filter G).length : Int) = want then none else some (maxF (bt (h.filter G)) (h.filter G))
def allF : Nat → List Int → List Int
  | 0, _ => []
  | f + 1, h => match excL G I bt want h with
    | none => []
    | some n => n :: allF f (woL h n)
def goneL (h : List Int) : List Int := allF G I bt want h.length h
def restL (h : List Int) : List Int := (goneL G I bt want h).foldl woL h
end

section
variable {G I : Int → Bool} {bt : List Int → Int → Int → Bool} {want : Int} {h : List Int} {n : Int}

theorem excL_few (hw : want < 1 ∨ ((h.filter G).length : Int) < want) : excL G I bt want h = none := by unfold excL; rw [if_pos hw]
theorem excL_idle (hw : ¬ (want < 1 ∨ ((h.filter G).length : Int) < want)) {x : Int} {t : List Int} (hi : h.filter I = x :: t) : excL G I bt want h = some x := by unfold excL; rw [if_neg hw, hi]
theorem excL_just (hi : h.filter I = []) (hw : ((h.filter G).length : Int) = want) : excL G I bt want h = none := by unfold excL; rw [hi]; simp [hw]
theorem excL_more (hw : ¬ (want < 1 ∨ ((h.filter G).length : Int) < want)) (hi : h.filter I = []) (hj : ¬ ((h.filter G).length : Int) = want) : excL G I bt want h = some (maxF (bt (h.filter G)) (h.filter G)) := by
  unfold excL; rw [if_neg hw, hi]; simp [hj]
theorem excL_none (he : excL G I bt want h = none) : want < 1 ∨ ((h.filter G).length : Int) < want ∨ (h.filter I = [] ∧ ((h.filter G).length : Int) = want) := by
  unfold excL at he
  split at he
  · rename_i hw; exact hw.elim .inl (fun h => .inr (.inl h))
  · split at he
    · cases he
    · rename_i hi
      split at he
      · rename_i hj; exact .inr (.inr ⟨hi, hj⟩)
      · cases he
theorem excL_some (he : excL G I bt want h = some n) : 1 ≤ want ∧ want ≤ (h.filter G).length ∧ n ∈ h ∧ (I n = true ∨ (h.filter I = [] ∧ G n = true ∧ want < (h.filter G).length ∧ n = maxF (bt (h.filter G)) (h.filter G))) := by
  unfold excL at he
  split at he
  · cases he
  · rename_i hw
    have hw2 : ¬ want < 1 := fun h => hw (.inl h)
    have hw3 : ¬ ((h.filter G).length : Int) < want := fun h => hw (.inr h)
    split at he
    · rename_i x t hi
      cases he
      have : n ∈ h.filter I := by rw [hi]; simp
      have := List.mem_filter.1 this
      exact ⟨by omega, by omega, this.1, .inl this.2⟩
    · rename_i hi
      split at he
      · cases he
      · rename_i hj
        cases he
        have hne : h.filter G ≠ [] := fun e => by rw [e] at hw3; simp at hw3; omega
        have := List.mem_filter.1 (maxF_mem (bt := bt (h.filter G)) hne)
        exact ⟨by omega, by omega, this.1, .inr ⟨hi, this.2, by omega, rfl⟩⟩

theorem allF_fuel : ∀ (f g : Nat) (h : List Int), h.length ≤ f → h.length ≤ g → allF G I bt want f h = allF G I bt want g h := by
  have nil : ∀ (f : Nat), allF G I bt want f [] = [] := fun f => by
    cases f with
    | zero => rfl
    | succ f =>
      rw [allF, excL_few]
      by_cases hw : want < 1
      · exact .inl hw
      · exact .inr (by simp; omega)
  intro f
  induction f with
  | zero =>
    intro g h hf _
    have : h = [] := List.eq_nil_of_length_eq_zero (by omega)
    rw [this, nil, nil]
  | succ f ih =>
    intro g h hf hg
    cases g with
    | zero =>
      have : h = [] := List.eq_nil_of_length_eq_zero (by omega)
      rw [this, nil, nil]
    | succ g =>
      rw [allF, allF]
      cases e : excL G I bt want h with
      | none => rfl
      | some n =>
        have := woL_len_lt (excL_some e).2.2.1
        simp only
        rw [ih g (woL h n) (by omega) (by omega)]
theorem goneL_none (he : excL G I bt want h = none) : goneL G I bt want h = [] := by
  unfold goneL
  cases e : h.length with
  | zero => rfl
  | succ f => rw [allF, he]
theorem goneL_some (he : excL G I bt want h = some n) : goneL G I bt want h = n :: goneL G I bt want (woL h n) := by
  have hm := (excL_some he).2.2.1
  have hl := woL_len_lt hm
  unfold goneL
  cases e : h.length with
  | zero => omega
  | succ f =>
    rw [allF, he]
    simp only
    rw [allF_fuel f (woL h n).length (woL h n) (by omega) (Nat.le_refl _)]
theorem restL_none (he : excL G I bt want h = none) : restL G I bt want h = h := by unfold restL; rw [goneL_none he]; rfl
theorem restL_some (he : excL G I bt want h = some n) : restL G I bt want h = restL G I bt want (woL h n) := by unfold restL; rw [goneL_some he]; rfl

theorem gone_ind {P : List Int → Prop} (base : ∀ h, excL G I bt want h = none → P h) (step : ∀ h n, excL G I bt want h = some n → P (woL h n) → P h) : ∀ h, P h := by
  have key : ∀ (k : Nat) (h : List Int), h.length = k → P h := by
    intro k
    induction k using Nat.strongRecOn with
    | _ k ih =>
      intro h hk
      cases e : excL G I bt want h with
      | none => exact base h e
      | some n => exact step h n e (ih _ (by have := woL_len_lt (excL_some e).2.2.1; omega) _ rfl)
  exact fun h => key _ h rfl

theorem gone_there : ∀ h : List Int, ∀ i, i < (goneL G I bt want h).length → at_ (goneL G I bt want h) i ∈ ((goneL G I bt want h).take i).foldl woL h ∧ (G (at_ (goneL G I bt want h) i) = true ∨ I (at_ (goneL G I bt want h) i) = true) := by
  refine gone_ind (G := G) (I := I) (bt := bt) (want := want) (fun h he i hi => ?_) (fun h n he ih i hi => ?_)
  · rw [goneL_none he] at hi; simp at hi
  · rw [goneL_some he] at hi ⊢
    cases i with
    | zero =>
      refine ⟨(excL_some he).2.2.1, ?_⟩
      rcases (excL_some he).2.2.2 with h1 | h1
      · exact .inr h1
      · exact .inl h1.2.1
    | succ i => exact ih i (by simpa using hi)
theorem gone_mem {z : Int} : ∀ h : List Int, z ∈ goneL G I bt want h → z ∈ h ∧ (G z = true ∨ I z = true) := by
  refine gone_ind (G := G) (I := I) (bt := bt) (want := want) (fun h he hz => ?_) (fun h n he ih hz => ?_)
  · rw [goneL_none he] at hz; simp at hz
  · rw [goneL_some he] at hz
    rcases List.mem_cons.1 hz with rfl | hz
    · refine ⟨(excL_some he).2.2.1, ?_⟩
      rcases (excL_some he).2.2.2 with h1 | h1
      · exact .inr h1
      · exact .inl h1.2.1
    · have := ih hz
      exact ⟨(woL_mem.1 this.1).1, this.2⟩
theorem gone_or_rest {z : Int} : ∀ h : List Int, z ∈ h → z ∈ goneL G I bt want h ∨ z ∈ restL G I bt want h := by
  refine gone_ind (G := G) (I := I) (bt := bt) (want := want) (fun h he hz => ?_) (fun h n he ih hz => ?_)
  · rw [restL_none he]; exact .inr hz
  · rw [goneL_some he, restL_some he]
    by_cases e : z = n
    · subst e; exact .inl (by simp)
    · rcases ih (woL_mem.2 ⟨hz, e⟩) with h1 | h1
      · exact .inl (by simp [h1])
      · exact .inr h1
theorem gone_len : ∀ h : List Int, h.Nodup → (restL G I bt want h).length + (goneL G I bt want h).length = h.length := by
  refine gone_ind (G := G) (I := I) (bt := bt) (want := want) (fun h he _ => ?_) (fun h n he ih hd => ?_)
  · rw [restL_none he, goneL_none he]; simp
  · rw [restL_some he, goneL_some he]
    have h1 := ih (woL_nodup hd n)
    have h2 := woL_len hd (excL_some he).2.2.1
    simp only [List.length_cons]
    omega
theorem rest_nodup : ∀ h : List Int, h.Nodup → (restL G I bt want h).Nodup := by
  refine gone_ind (G := G) (I := I) (bt := bt) (want := want) (fun h he hd => ?_) (fun h n he ih hd => ?_)
  · rw [restL_none he]; exact hd
  · rw [restL_some he]; exact ih (woL_nodup hd n)
theorem rest_good (hdis : ∀ z, I z = true → G z = false) (hw : 1 ≤ want) : ∀ h : List Int, h.Nodup → want ≤ (h.filter G).length → ((restL G I bt want h).filter G).length = want ∧ (restL G I bt want h).filter I = [] := by
  refine gone_ind (G := G) (I := I) (bt := bt) (want := want) (fun h he hd hg => ?_) (fun h n he ih hd hg => ?_)
  · rw [restL_none he]
    rcases excL_none he with h1 | h1 | h1
    · omega
    · omega
    · exact ⟨h1.2, h1.1⟩
  · rw [restL_some he]
    refine ih (woL_nodup hd n) ?_
    rw [woL_filter]
    rcases (excL_some he).2.2.2 with h1 | ⟨_, h1, h2, _⟩
    · rw [woL_not (fun hm => by have := (List.mem_filter.1 hm).2; rw [hdis n h1] at this; cases this)]
      exact hg
    · have := woL_len (hd.sublist List.filter_sublist) (List.mem_filter.2 ⟨(excL_some he).2.2.1, h1⟩ : n ∈ h.filter G)
      omega
theorem gone_all_good : ∀ h : List Int, h.filter I = [] → ∀ z ∈ goneL G I bt want h, G z = true := by
  refine gone_ind (G := G) (I := I) (bt := bt) (want := want) (fun h he hi z hz => ?_) (fun h n he ih hi z hz => ?_)
  · rw [goneL_none he] at hz; simp at hz
  · rw [goneL_some he] at hz
    rcases List.mem_cons.1 hz with rfl | hz
    · rcases (excL_some he).2.2.2 with h1 | h1
      · have : z ∈ h.filter I := List.mem_filter.2 ⟨(excL_some he).2.2.1, h1⟩
        rw [hi] at this
        simp at this
      · exact h1.2.1
    · exact ih (by rw [woL_filter, hi]; rfl) z hz
/-- The idle ones go first. -/
theorem gone_idle_first (hdis : ∀ z, I z = true → G z = false) : ∀ h : List Int, ∀ i, i + 1 < (goneL G I bt want h).length → G (at_ (goneL G I bt want h) i) = true → G (at_ (goneL G I bt want h) (i + 1)) = true := by
  refine gone_ind (G := G) (I := I) (bt := bt) (want := want) (fun h he i hi => ?_) (fun h n he ih i hi hg => ?_)
  · rw [goneL_none he] at hi; simp at hi
  · rw [goneL_some he] at hi hg ⊢
    cases i with
    | succ i => exact ih i (by simpa using hi) hg
    | zero =>
      have hg' : G n = true := hg
      rcases (excL_some he).2.2.2 with h1 | h1
      · rw [hdis n h1] at hg'; cases hg'
      · have hlen : 0 < (goneL G I bt want (woL h n)).length := by simpa using hi
        exact gone_all_good (woL h n) (by rw [woL_filter, h1.1]; rfl) _ (at_mem hlen)
end

end Go.Proofs.Ytflndnbjdhbppaa

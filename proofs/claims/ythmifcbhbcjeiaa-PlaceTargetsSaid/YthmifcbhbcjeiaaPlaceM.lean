/- Which node takes a chunk: in plain words. -/
import Derived.Test.YthmifcbhbcjeiaaPlace3
namespace Go.Proofs.Ythmifcbhbcjeiaa
open Go Go.RowKit

def posD (ld : List Ld) : Prop := ∀ y ∈ ld, 0 ≤ y.2
theorem load_nn {ld : List Ld} (h : posD ld) (z : Int) : 0 ≤ loadL ld z := by
  unfold loadL
  cases e : ld.find? (fun x => x.1 == z) with
  | none => exact Int.le_refl 0
  | some y => exact h y (List.mem_of_find?_eq_some e)
def oldB (l : List Nq) (ho : List Int) (r : Int) : Bool := hasB (racksOf l ho) r
def lessT (l : List Nq) (ld : List Ld) (ho : List Int) (n a : Nq) : Bool := (!oldB l ho n.2.1 && oldB l ho a.2.1) || (oldB l ho n.2.1 == oldB l ho a.2.1 && decide (loadL ld n.1 < loadL ld a.1))
def beats (l : List Nq) (ld : List Ld) (ho : List Int) (n : Nq) : Option Nq → Bool
  | none => true
  | some a => lessT l ld ho n a
def stepT (l : List Nq) (al : List Int) (ld : List Ld) (ho : List Int) (acc : Option Nq) (n : Nq) : Option Nq := if mayT l al ld ho n.1 && beats l ld ho n acc then some n else acc
def tgtK (l : List Nq) (al : List Int) (ld : List Ld) (ho : List Int) (k : Nat) : Option Nq := (l.take k).foldl (stepT l al ld ho) none
def tgtL (l : List Nq) (al : List Int) (ld : List Ld) (ho : List Int) : Option Nq := l.foldl (stepT l al ld ho) none
def idO (o : Option Nq) : Int := (o.map (·.1)).getD 0

theorem tgtK_step {l : List Nq} {al : List Int} {ld : List Ld} {ho : List Int} {k : Nat} (hk : k < l.length) : tgtK l al ld ho (k + 1) = stepT l al ld ho (tgtK l al ld ho k) (at_ l k) := by
  unfold tgtK
  rw [take_at hk, List.foldl_append]
  rfl
theorem tgtK_all (l : List Nq) (al : List Int) (ld : List Ld) (ho : List Int) : tgtK l al ld ho l.length = tgtL l al ld ho := by
  unfold tgtK tgtL
  rw [List.take_length]
theorem mayT_iff (l : List Nq) (al : List Int) (ld : List Ld) (ho : List Int) (z : Int) : mayT l al ld ho z = true ↔ ∃ x, findL l z = some x ∧ x.2.2.2 = 0 ∧ hasB al z = true ∧ hasB ho z = false ∧ loadL ld z < x.2.2.1 := by
  unfold mayT okN
  cases findL l z with
  | none => simp
  | some x => simp [and_assoc]
theorem findL_some {l : List Nq} {z : Int} {x : Nq} : findL l z = some x ↔ mayL l = true ∧ x ∈ l ∧ x.1 = z := by
  unfold findL
  constructor
  · intro h
    by_cases hm : mayL l = true
    · rw [fairL_of hm] at h
      exact ⟨hm, List.mem_of_find?_eq_some h, by simpa [noI] using List.find?_some h⟩
    · have : fairL l = [] := by unfold fairL; rw [if_neg hm]
      rw [this] at h
      cases h
  · rintro ⟨hm, hx, rfl⟩
    rw [fairL_of hm]
    exact Ris.find_mem ((mayL_iff l).1 hm).1 hx
theorem mayT_spec {l : List Nq} {al : List Int} {ld : List Ld} {ho : List Int} {a : Nq} (ha : a ∈ l) (h : mayT l al ld ho a.1 = true) : mayL l = true ∧ a.2.2.2 = 0 ∧ hasB al a.1 = true ∧ hasB ho a.1 = false ∧ loadL ld a.1 < a.2.2.1 ∧ a.2.2.1 ≤ 16 := by
  obtain ⟨x, hx, h1, h2, h3, h4⟩ := (mayT_iff _ _ _ _ _).1 h
  obtain ⟨hm, hxl, he⟩ := findL_some.1 hx
  have e2 : findL l a.1 = some a := findL_some.2 ⟨hm, ha, rfl⟩
  rw [hx] at e2
  cases e2
  exact ⟨hm, h1, h2, h3, h4, (((mayL_iff l).1 hm).2 _ ha).2.2.1.2⟩
/-- What is found by any fold over some of the nodes. -/
theorem fold_ok {l : List Nq} {al : List Int} {ld : List Ld} {ho : List Int} (xs : List Nq) : ∀ acc, (∀ a, acc = some a → a ∈ l ∧ mayT l al ld ho a.1 = true) → (∀ x ∈ xs, x ∈ l) →
    ∀ a, xs.foldl (stepT l al ld ho) acc = some a → a ∈ l ∧ mayT l al ld ho a.1 = true := by
  induction xs with
  | nil => intro acc h _ a ha; exact h a ha
  | cons x xs ih =>
    intro acc h hx a ha
    refine ih (stepT l al ld ho acc x) ?_ (fun y hy => hx y (List.mem_cons_of_mem _ hy)) a ha
    intro b hb
    unfold stepT at hb
    split at hb
    · rename_i hc
      cases hb
      simp only [Bool.and_eq_true] at hc
      exact ⟨hx x (List.mem_cons_self ..), hc.1⟩
    · exact h b hb
theorem tgtK_ok {l : List Nq} {al : List Int} {ld : List Ld} {ho : List Int} {k : Nat} {a : Nq} (h : tgtK l al ld ho k = some a) : a ∈ l ∧ mayT l al ld ho a.1 = true :=
  fold_ok (l.take k) none (fun _ h => by cases h) (fun x hx => List.mem_of_mem_take hx) a h
theorem tgtL_ok {l : List Nq} {al : List Int} {ld : List Ld} {ho : List Int} {a : Nq} (h : tgtL l al ld ho = some a) : a ∈ l ∧ mayT l al ld ho a.1 = true :=
  fold_ok l none (fun _ h => by cases h) (fun x hx => hx) a h

def leastC (l : List Nq) (ld : List Ld) (ho : List Int) : Option Nq → Nat × Nat
  | none => (0, 0)
  | some a => (wRe (oldB l ho a.2.1), fl (loadL ld a.1))

theorem betB_less {l : List Nq} {al : List Int} {ld : List Ld} {ho : List Int} {n a : Nq} (hp : posD ld) (hn : n ∈ l) (ha : a ∈ l) (mn : mayT l al ld ho n.1 = true) (ma : mayT l al ld ho a.1 = true) :
    betB (wRe (oldB l ho n.2.1)) (fl (minI (loadL ld n.1) n.2.2.1)) (wRe (oldB l ho a.2.1)) (fl (loadL ld a.1)) = lessT l ld ho n a := by
  obtain ⟨_, _, _, _, n1, n2⟩ := mayT_spec hn mn
  obtain ⟨_, _, _, _, a1, a2⟩ := mayT_spec ha ma
  have n0 := load_nn hp n.1
  have a0 := load_nn hp a.1
  have e : minI (loadL ld n.1) n.2.2.1 = loadL ld n.1 := by unfold minI; rw [if_neg (by omega)]
  rw [e]
  unfold lessT
  generalize loadL ld n.1 = p at *
  generalize loadL ld a.1 = q at *
  obtain ⟨p', rfl⟩ : ∃ k : Nat, p = (k : Int) := ⟨p.toNat, by omega⟩
  obtain ⟨q', rfl⟩ : ∃ k : Nat, q = (k : Int) := ⟨q.toNat, by omega⟩
  have := betB_eq (oldB l ho n.2.1) (oldB l ho a.2.1) ⟨p', by omega⟩ ⟨q', by omega⟩
  rw [this]
  simp [Int.ofNat_lt]

theorem hok_worth {l : List Nq} {ld : List Ld} {ho : List Int} {x : Nq} (hp : posD ld) (hx : x ∈ l) (h : hasB (racksOf l ho) x.2.1 = true) : 0 ≤ minI (loadL ld x.1) x.2.2.1 ∧ minI (loadL ld x.1) x.2.2.1 ≤ 16 := by
  obtain ⟨id, _, hr⟩ := (racksOf_mem _ _ _).1 (hasB_iff.1 h)
  unfold rackOf at hr
  obtain ⟨y, hy, _⟩ := Option.map_eq_some_iff.1 hr
  obtain ⟨hm, _, _⟩ := findL_some.1 hy
  have hmx := ((mayL_iff l).1 hm).2 x hx
  have := load_nn hp x.1
  unfold minI
  unfold mayP at hmx
  split <;> omega

end Go.Proofs.Ythmifcbhbcjeiaa

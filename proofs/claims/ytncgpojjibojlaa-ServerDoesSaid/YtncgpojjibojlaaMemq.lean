/- Words on memory: a slice that reads as a list of cells (Rd), a slice that owns its cells (Own), frames (Fr), the law of append over them. -/
import Derived.Test.YtncgpojjibojlaaBaseq
import Derived.ArgAppend
import Derived.Deep.AppendLies
import Derived.WalkSmall
namespace Go.Proofs.Ytncgpojjibojlaa
open Go Go.RowKit

/-- What has turned between two worlds: of the old blocks at most those in S. -/
structure Fr (S : Nat → Prop) (w w' : World) : Prop where
  os : w'.os = w.os
  tape : w'.tape = w.tape
  output : w'.output = w.output
  size : w.heap.size ≤ w'.heap.size
  block : ∀ k, k < w.heap.size → ¬ S k → w'.heap[k]? = w.heap[k]?

theorem Fr.refl (S : Nat → Prop) (w : World) : Fr S w w := ⟨rfl, rfl, rfl, Nat.le_refl _, fun _ _ _ => rfl⟩
theorem Fr.trans {S T : Nat → Prop} {a b c : World} (h : Fr S a b) (k : Fr T b c) (hs : ∀ i, T i → S i ∨ a.heap.size ≤ i) : Fr S a c :=
  ⟨k.os.trans h.os, k.tape.trans h.tape, k.output.trans h.output, Nat.le_trans h.size k.size, fun i hi hn => (k.block i (Nat.lt_of_lt_of_le hi h.size) (fun ht => by
    rcases hs i ht with h1 | h1
    · exact hn h1
    · omega)).trans (h.block i hi hn)⟩
theorem Fr.weak {S T : Nat → Prop} {a b : World} (h : Fr S a b) (hs : ∀ i, S i → T i ∨ a.heap.size ≤ i) : Fr T a b :=
  ⟨h.os, h.tape, h.output, h.size, fun i hi hn => h.block i hi (fun ht => by
    rcases hs i ht with h1 | h1
    · exact hn h1
    · omega)⟩
theorem Fr.of_below {S : Nat → Prop} {a b : World} (h : Below a.heap.size a b) : Fr S a b := ⟨h.os, h.tape, h.output, h.size, fun i hi _ => h.block i hi⟩
theorem Fr.below {S : Nat → Prop} {a b : World} {B : Nat} (h : Fr S a b) (hB : B ≤ a.heap.size) (hs : ∀ i, S i → B ≤ i) : Below B a b :=
  ⟨h.os, h.tape, h.output, h.size, fun i hi => h.block i (by omega) (fun ht => by have := hs i ht; omega)⟩
theorem Fr.drew (w : World) (S : Nat → Prop) : Fr S w w.drew := ⟨rfl, rfl, rfl, Nat.le_refl _, fun _ _ _ => rfl⟩
theorem Fr.drewN (w : World) (n : Nat) (S : Nat → Prop) : Fr S w (w.drewN n) := ⟨rfl, rfl, rfl, Nat.le_refl _, fun _ _ _ => rfl⟩
theorem Fr.alloc (w : World) (o : Obj) (S : Nat → Prop) : Fr S w (w.alloc o) := ⟨rfl, rfl, rfl, by simp, fun k hk _ => Below.heap_alloc _ _ _ hk⟩
theorem Fr.setCell (w : World) (a : Addr) (u : Value) (S : Nat → Prop) (h : S a.block) : Fr S w (w.setCell a u) :=
  ⟨rfl, rfl, rfl, by simp [World.setCell], fun k _ hn => Below.heap_setCell _ _ _ _ (fun e => hn (by rw [e]; exact h))⟩

theorem Fr.thenSet {S : Nat → Prop} {a w : World} (h : Fr S a w) (p : Addr) (u : Value) (hs : S p.block ∨ a.heap.size ≤ p.block) : Fr S a (w.setCell p u) :=
  h.trans (Fr.setCell w p u (fun k => k = p.block) rfl) (fun i hi => by rw [hi]; exact hs)
theorem Fr.thenDrew {S : Nat → Prop} {a w : World} (h : Fr S a w) : Fr S a w.drew := h.trans (Fr.drew w (fun _ => False)) (fun _ hi => hi.elim)
theorem Fr.thenDrewN {S : Nat → Prop} {a w : World} (h : Fr S a w) (n : Nat) : Fr S a (w.drewN n) := h.trans (Fr.drewN w n (fun _ => False)) (fun _ hi => hi.elim)
theorem Fr.thenAlloc {S : Nat → Prop} {a w : World} (h : Fr S a w) (o : Obj) : Fr S a (w.alloc o) := h.trans (Fr.alloc w o (fun _ => False)) (fun _ hi => hi.elim)
theorem Fr.thenBelow {S : Nat → Prop} {a w w' : World} (h : Fr S a w) (hb : Below w.heap.size w w') : Fr S a w' := h.trans (Fr.of_below (S := fun _ => False) hb) (fun _ hi => hi.elim)

/-- Two steps of Below, each from its own world on. -/
theorem below_then {a b c : World} (h : Below a.heap.size a b) (k : Below b.heap.size b c) : Below a.heap.size a c := h.trans (k.mono h.size)

/-- A slice of n elements, size cells each, that reads as xs. -/
def Rd (w : World) (size : Nat) (v : Value) (n : Nat) (xs : List Value) : Prop :=
  xs.length = n * size ∧ ∃ A cap, v = .slice A n cap ∧ n ≤ cap ∧ cap ≤ maxLen ∧
    (0 < n → ∃ b off, A = some ⟨b, off, none⟩ ∧ b < w.heap.size ∧ ∀ j u, xs[j]? = some u → w.cell? ⟨b, off + j, none⟩ = some u)

/-- The block that a slice with capacity lies in. -/
def blk : Value → Option Nat
  | .slice (some a) _ (_ + 1) => some a.block
  | _ => none

/-- A slice of the call's own: nil or without capacity, or a part of a block of element type e, from block base on, not frozen. -/
def Own (w : World) (base : Nat) (e : TypeId) (size : Nat) (v : Value) (n : Nat) (xs : List Value) : Prop :=
  xs.length = n * size ∧
  ((∃ A, v = .slice A 0 0 ∧ n = 0) ∨
   ∃ g off cap cur, v = .slice (some ⟨g, off, none⟩) n cap ∧ base ≤ g ∧ w.heap[g]? = some (.cells cur e (0, 0)) ∧ 0 < cap ∧ n ≤ cap ∧ cap ≤ maxLen ∧ off + cap * size ≤ cur.size ∧ (cur.toList.drop off).take (n * size) = xs)

section
variable {w w' : World} {base size n : Nat} {e : TypeId} {v : Value} {xs : List Value}

theorem Rd.nil_ (w : World) (size : Nat) : Rd w size (.slice none 0 0) 0 [] := ⟨by simp, none, 0, rfl, Nat.le_refl _, Nat.zero_le _, fun h => absurd h (by omega)⟩
theorem Own.nil_ (w : World) (base : Nat) (e : TypeId) (size : Nat) : Own w base e size (.slice none 0 0) 0 [] := ⟨by simp, .inl ⟨none, rfl, rfl⟩⟩

theorem Own.cells {g off cap : Nat} (h : Own w base e size (.slice (some ⟨g, off, none⟩) n cap) n xs) : ∀ j u, xs[j]? = some u → w.cell? ⟨g, off + j, none⟩ = some u := by
  intro j u hu
  rcases h.2 with ⟨A, hv, hn⟩ | ⟨g', off', cap', cur, hv, _, hg, _, _, _, _, ht⟩
  · have : xs = [] := List.eq_nil_of_length_eq_zero (by rw [h.1, hn]; simp)
    subst this
    simp at hu
  · injection hv with h1 h2 h3
    injection h1 with h1
    injection h1 with h4 h5
    subst h4 h5
    rw [cell_of_row w g (off + j) cur e (0, 0) hg]
    rw [← ht, List.getElem?_take] at hu
    split at hu
    · rw [List.getElem?_drop] at hu
      simpa using hu
    · cases hu
theorem Own.lt {g off cap : Nat} (h : Own w base e size (.slice (some ⟨g, off, none⟩) n cap) n xs) (hn : 0 < cap) : base ≤ g ∧ g < w.heap.size := by
  rcases h.2 with ⟨A, hv, hn'⟩ | ⟨g', off', cap', cur, hv, hb, hg, _⟩
  · injection hv with h1 h2 h3; omega
  · injection hv with h1 h2 h3
    injection h1 with h1
    injection h1 with h4 h5
    subst h4 h5
    exact ⟨hb, (Array.getElem?_eq_some_iff.1 hg).1⟩
theorem Own.frozen {g off cap : Nat} (h : Own w base e size (.slice (some ⟨g, off, none⟩) n cap) n xs) (hn : 0 < cap) (j : Nat) : w.frozen? ⟨g, j, none⟩ = false := by
  rcases h.2 with ⟨A, hv, hn'⟩ | ⟨g', off', cap', cur, hv, hb, hg, _⟩
  · injection hv with h1 h2 h3; omega
  · injection hv with h1 h2 h3
    injection h1 with h1
    injection h1 with h4 h5
    subst h4 h5
    simp [World.frozen?, hg]
theorem Own.form (h : Own w base e size v n xs) (hn : 0 < n) : ∃ g off cap, v = .slice (some ⟨g, off, none⟩) n cap ∧ n ≤ cap ∧ cap ≤ maxLen ∧ base ≤ g ∧ g < w.heap.size ∧ blk v = some g := by
  rcases h.2 with ⟨A, hv, hn'⟩ | ⟨g, off, cap, cur, hv, hb, hg, hc, hnc, hm, _⟩
  · omega
  · refine ⟨g, off, cap, hv, hnc, hm, hb, (Array.getElem?_eq_some_iff.1 hg).1, ?_⟩
    rw [hv]
    obtain ⟨c, rfl⟩ : ∃ c, cap = c + 1 := ⟨cap - 1, by omega⟩
    rfl
theorem Own.slice_ (h : Own w base e size v n xs) : ∃ A cap, v = .slice A n cap := by
  rcases h.2 with ⟨A, rfl, rfl⟩ | ⟨g, off, cap, cur, rfl, _⟩
  · exact ⟨_, _, rfl⟩
  · exact ⟨_, _, rfl⟩
theorem Own.rd (h : Own w base e size v n xs) : Rd w size v n xs := by
  refine ⟨h.1, ?_⟩
  have h2 := h.2
  rcases h2 with ⟨A, rfl, rfl⟩ | ⟨g, off, cap, cur, rfl, hb, hg, hc, hn, hm, hs, ht⟩
  · exact ⟨A, 0, rfl, Nat.le_refl _, Nat.zero_le _, fun h => absurd h (by omega)⟩
  · exact ⟨some ⟨g, off, none⟩, cap, rfl, hn, hm, fun _ => ⟨g, off, rfl, (Array.getElem?_eq_some_iff.1 hg).1, h.cells⟩⟩
theorem Own.blk_lt (h : Own w base e size v n xs) {g : Nat} (hg : blk v = some g) : base ≤ g ∧ g < w.heap.size := by
  rcases h.2 with ⟨A, rfl, _⟩ | ⟨g', off, cap, cur, rfl, hb, hgg, hc, _⟩
  · cases A <;> simp [blk] at hg
  · obtain ⟨c, rfl⟩ : ∃ c, cap = c + 1 := ⟨cap - 1, by omega⟩
    simp [blk] at hg
    subst hg
    exact ⟨hb, (Array.getElem?_eq_some_iff.1 hgg).1⟩
/-- The element type tells blocks apart. -/
theorem Own.blk_elem (h : Own w base e size v n xs) {g : Nat} (hg : blk v = some g) : ∃ cur, w.heap[g]? = some (.cells cur e (0, 0)) := by
  rcases h.2 with ⟨A, rfl, _⟩ | ⟨g', off, cap, cur, rfl, hb, hgg, hc, _⟩
  · cases A <;> simp [blk] at hg
  · obtain ⟨c, rfl⟩ : ∃ c, cap = c + 1 := ⟨cap - 1, by omega⟩
    simp [blk] at hg
    subst hg
    exact ⟨cur, hgg⟩
theorem Own.keep (h : Own w base e size v n xs) (hk : ∀ g, blk v = some g → w'.heap[g]? = w.heap[g]?) : Own w' base e size v n xs := by
  refine ⟨h.1, ?_⟩
  rcases h.2 with h1 | ⟨g, off, cap, cur, rfl, hb, hg, hc, r⟩
  · exact .inl h1
  · refine .inr ⟨g, off, cap, cur, rfl, hb, ?_, hc, r⟩
    obtain ⟨c, rfl⟩ : ∃ c, cap = c + 1 := ⟨cap - 1, by omega⟩
    rw [hk g rfl]
    exact hg
theorem Own.fr (h : Own w base e size v n xs) {S : Nat → Prop} (hf : Fr S w w') (hn : ∀ g, blk v = some g → ¬ S g) : Own w' base e size v n xs :=
  h.keep fun g hg => hf.block g (h.blk_lt hg).2 (hn g hg)
theorem Own.below {B : Nat} (h : Own w base e size v n xs) (hf : Below B w w') (hn : w.heap.size ≤ B) : Own w' base e size v n xs :=
  h.keep fun g hg => hf.block g (Nat.lt_of_lt_of_le (h.blk_lt hg).2 hn)
theorem Own.alloc (h : Own w base e size v n xs) (o : Obj) : Own (w.alloc o) base e size v n xs :=
  h.keep fun g hg => Below.heap_alloc _ _ _ (h.blk_lt hg).2
theorem Own.drewN (h : Own w base e size v n xs) (k : Nat) : Own (w.drewN k) base e size v n xs := h.keep fun _ _ => rfl
theorem Own.drew (h : Own w base e size v n xs) : Own w.drew base e size v n xs := h.keep fun _ _ => rfl
theorem Own.mono {base' : Nat} (h : Own w base e size v n xs) (hb : base' ≤ base) : Own w base' e size v n xs := by
  refine ⟨h.1, ?_⟩
  rcases h.2 with h1 | ⟨g, off, cap, cur, hv, hbg, r⟩
  · exact .inl h1
  · exact .inr ⟨g, off, cap, cur, hv, Nat.le_trans hb hbg, r⟩
theorem Rd.keep (h : Rd w size v n xs) (hsz : w.heap.size ≤ w'.heap.size) (hk : ∀ b off c, v = .slice (some ⟨b, off, none⟩) n c → 0 < n → w'.heap[b]? = w.heap[b]?) : Rd w' size v n xs := by
  obtain ⟨h1, A, cap, rfl, h2, h3, h4⟩ := h
  refine ⟨h1, A, cap, rfl, h2, h3, fun hn => ?_⟩
  obtain ⟨b, off, rfl, hb, hc⟩ := h4 hn
  exact ⟨b, off, rfl, by omega, fun j u hu => (World.cell?_of_block (hk b off cap rfl hn)).trans (hc j u hu)⟩
theorem Rd.below {B : Nat} (h : Rd w size v n xs) (hf : Below B w w') (hB : w.heap.size ≤ B) : Rd w' size v n xs := by
  obtain ⟨h1, A, cap, rfl, h2, h3, h4⟩ := h
  refine ⟨h1, A, cap, rfl, h2, h3, fun hn => ?_⟩
  obtain ⟨b, off, rfl, hb, hc⟩ := h4 hn
  exact ⟨b, off, rfl, Nat.lt_of_lt_of_le hb hf.size, fun j u hu => (hf.cell (p := ⟨b, off + j, none⟩) (by show b < B; omega)).trans (hc j u hu)⟩
theorem Rd.alloc (h : Rd w size v n xs) (o : Obj) : Rd (w.alloc o) size v n xs := h.below ((Below.refl _ _).alloc (Nat.le_refl _) o) (Nat.le_refl _)
theorem Rd.drewN (h : Rd w size v n xs) (k : Nat) : Rd (w.drewN k) size v n xs := h.below (below_drewN (Below.refl w.heap.size _) k) (Nat.le_refl _)
theorem Rd.drew (h : Rd w size v n xs) : Rd w.drew size v n xs := h.below (Below.refl w.heap.size _).drew (Nat.le_refl _)
/-- Written out, where there is an element. -/
theorem Rd.form (h : Rd w size v n xs) (hn : 0 < n) : ∃ b off cap, v = .slice (some ⟨b, off, none⟩) n cap ∧ n ≤ cap ∧ cap ≤ maxLen ∧ b < w.heap.size ∧ ∀ j u, xs[j]? = some u → w.cell? ⟨b, off + j, none⟩ = some u := by
  obtain ⟨_, A, cap, rfl, h2, h3, h4⟩ := h
  obtain ⟨b, off, rfl, hb, hc⟩ := h4 hn
  exact ⟨b, off, cap, rfl, h2, h3, hb, hc⟩
theorem Rd.cutEnd {A : Option Addr} {cap k : Nat} (h : Rd w size (.slice A n cap) n xs) (hk : k ≤ n) : Rd w size (.slice A k cap) k (xs.take (k * size)) := by
  have hle : k * size ≤ n * size := Nat.mul_le_mul_right _ hk
  obtain ⟨h1, A', cap', hv, h2, h3, h4⟩ := h
  injection hv with e1 e2 e3
  subst e1 e3
  refine ⟨by rw [List.length_take, h1]; omega, A, cap, rfl, by omega, h3, fun hpos => ?_⟩
  obtain ⟨b, off, rfl, hb, hc⟩ := h4 (by omega)
  exact ⟨b, off, rfl, hb, fun j u hj => hc j u (by rw [List.getElem?_take] at hj; split at hj; exact hj; cases hj)⟩
theorem Rd.cutHead {b off cap k : Nat} (h : Rd w size (.slice (some ⟨b, off, none⟩) n cap) n xs) (hk : k ≤ n) (A : Option Addr) (hA : k < n → A = some ⟨b, off + k * size, none⟩) : Rd w size (.slice A (n - k) (cap - k)) (n - k) (xs.drop (k * size)) := by
  obtain ⟨h1, A', cap', hv, h2, h3, h4⟩ := h
  injection hv with e1 e2 e3
  subst e3
  refine ⟨by rw [List.length_drop, h1, Nat.sub_mul], A, cap - k, rfl, by omega, by omega, fun hpos => ?_⟩
  obtain ⟨b', off', hA', hb, hc⟩ := h4 (by omega)
  subst e1
  injection hA' with hA'
  injection hA' with e4 e5
  subst e4 e5
  exact ⟨b, off + k * size, hA (by omega), hb, fun j u hj => by
    rw [List.getElem?_drop] at hj
    have := hc _ _ hj
    rw [Nat.add_assoc]
    exact this⟩
/-- A block just made. -/
theorem Own.new (w : World) (cs : Array Value) (e : TypeId) (size n : Nat) (hs : cs.size = n * size) (hn : 0 < n) (hm : n ≤ maxLen) (hb : base ≤ w.heap.size) : Own (w.alloc (.cells cs e)) base e size (.slice (some ⟨w.heap.size, 0, none⟩) n n) n cs.toList :=
  ⟨by simpa using hs, .inr ⟨w.heap.size, 0, n, cs, rfl, hb, heap_alloc_new w _, hn, Nat.le_refl _, hm, by omega, by
    rw [List.drop_zero, List.take_of_length_le (by simp; omega)]⟩⟩
/-- One cell of the row is stored into. -/
theorem Own.set_ {g off cap : Nat} (h : Own w base e size (.slice (some ⟨g, off, none⟩) n cap) n xs) (j : Nat) (hj : j < n * size) (u : Value) :
    Own (w.setCell ⟨g, off + j, none⟩ u) base e size (.slice (some ⟨g, off, none⟩) n cap) n (xs.set j u) := by
  refine ⟨by rw [List.length_set]; exact h.1, ?_⟩
  rcases h.2 with ⟨A, hv, hn⟩ | ⟨g', off', cap', cur, hv, hb, hg, hc, hn, hm, hs, ht⟩
  · subst hn; simp at hj
  · injection hv with h1 h2 h3
    injection h1 with h1
    injection h1 with h4 h5
    subst h4 h5 h3
    refine .inr ⟨g, off, cap, cur.setIfInBounds (off + j) u, rfl, hb, ?_, hc, hn, hm, by simpa using hs, ?_⟩
    · simp [World.setCell, Array.getElem?_modify, hg]
    · rw [← ht]
      apply List.ext_getElem?
      intro k
      simp only [List.getElem?_take, List.getElem?_drop, List.getElem?_set, Array.getElem?_toList, Array.getElem?_setIfInBounds, List.length_take, List.length_drop, Array.length_toList]
      have hle : n * size ≤ cap * size := Nat.mul_le_mul_right _ hn
      by_cases hk : k < n * size
      · by_cases e1 : j = k
        · subst e1
          have h7 : off + j < cur.size := by omega
          have h8 : j < min (n * size) (cur.size - off) := by omega
          simp [hk, h7, h8]
        · have : ¬ off + j = off + k := by omega
          simp [hk, e1, this]
      · by_cases e1 : j = k
        · omega
        · simp [hk, e1]
/-- Cut at the end. -/
theorem Own.cutEnd {A : Option Addr} {cap k : Nat} (h : Own w base e size (.slice A n cap) n xs) (hk : k ≤ n) : Own w base e size (.slice A k cap) k (xs.take (k * size)) := by
  have hle : k * size ≤ n * size := Nat.mul_le_mul_right _ hk
  refine ⟨by rw [List.length_take, h.1]; omega, ?_⟩
  rcases h.2 with ⟨A', hv, hn⟩ | ⟨g, off, cap', cur, hv, hb, hg, hc, hn, hm, hs, ht⟩
  · injection hv with h1 h2 h3
    exact .inl ⟨A, by rw [h3]; congr 1; omega, by omega⟩
  · injection hv with h1 h2 h3
    subst h1 h3
    exact .inr ⟨g, off, cap, cur, rfl, hb, hg, hc, by omega, hm, hs, by rw [← ht, List.take_take]; congr 1; omega⟩
/-- Cut at the head. -/
theorem Own.cutHead {g off cap k : Nat} (h : Own w base e size (.slice (some ⟨g, off, none⟩) n cap) n xs) (hk : k ≤ n) (hkc : k < cap) : Own w base e size (.slice (some ⟨g, off + k * size, none⟩) (n - k) (cap - k)) (n - k) (xs.drop (k * size)) := by
  refine ⟨by rw [List.length_drop, h.1, Nat.sub_mul], ?_⟩
  rcases h.2 with ⟨A', hv, hn⟩ | ⟨g', off', cap', cur, hv, hb, hg, hc, hn, hm, hs, ht⟩
  · injection hv with h1 h2 h3
    omega
  · injection hv with h1 h2 h3
    injection h1 with h1
    injection h1 with h4 h5
    subst h4 h5 h3
    have e1 : (cap - k) * size = cap * size - k * size := Nat.sub_mul _ _ _
    have e2 : k * size ≤ cap * size := Nat.mul_le_mul_right _ (by omega)
    have e3 : (n - k) * size = n * size - k * size := Nat.sub_mul _ _ _
    exact .inr ⟨g, off + k * size, cap - k, cur, rfl, hb, hg, by omega, by omega, by omega, by omega, by rw [← ht, List.drop_take, List.drop_drop, e3]⟩
end

/-- append, whatever the two slices are, the first of the call's own: what is there behind it. -/
theorem run_append_seg {P : Program} (w : World) (base : Nat) (t ty e : TypeId) (i : TypeInfo) (z : Value) (size bytes : Nat) (ht : P.underlying t = some (.slice e)) (hi : P.info? e = some i) (hz : i.zero = some z)
    (hsize : i.size = size) (hby : i.bytes = bytes) (hzs : z.cells.size = size) (hsz : 0 < size)
    (v : Value) (n : Nat) (xs : List Value) (hown : Own w base e size v n xs)
    (src : Value) (m : Nat) (news : List Value) (hsrc : Rd w size src m news) (h1 : ∀ u ∈ news, u.oneCell' = true)
    (h63 : n + m ≤ maxLen) (hbytes : (n + m) * bytes ≤ 140737488355328) (hbase : base ≤ w.heap.size) :
    ∃ v' w', (Builtin.append_ #[t, t] ty #[v, src]).run P w = .ok v' w' ∧ Own w' base e size v' (n + m) (xs ++ news) ∧ Fr (fun k => blk v = some k) w w' ∧
      (blk v' = blk v ∨ blk v' = some w.heap.size) ∧ (m = 0 → v' = v) := by
  obtain ⟨hl, A, c, rfl, hmc, hcm, hcells⟩ := hsrc
  by_cases hm : m = 0
  · subst hm
    obtain rfl : news = [] := List.eq_nil_of_length_eq_zero (by simpa using hl)
    obtain ⟨B, cap, rfl, hnc⟩ : ∃ B cap, v = .slice B n cap ∧ n ≤ cap := by
      rcases hown.2 with ⟨A, rfl, rfl⟩ | ⟨g, off, cap, cur, rfl, _, _, _, hn, _⟩
      · exact ⟨_, _, rfl, Nat.le_refl _⟩
      · exact ⟨_, _, rfl, hn⟩
    refine ⟨_, w, ?_, by simpa using hown, Fr.refl _ _, .inl rfl, fun _ => rfl⟩
    cases A <;> cases B <;> simp [Builtin.append_, run_underlying ht, sizeOf, typeInfo, hi, Builtin.lenOf, Builtin.firstCells, loadCells, loadCellsFrom, hnc, storeCells]
  · obtain ⟨b, off, rfl, hb, hc⟩ := hcells (by omega)
    have hc' : ∀ j u, news[j]? = some u → w.cell? ((⟨b, off, none⟩ : Addr).add j) = some u := fun j u hj => by rw [Addr.add_lit]; exact hc j u hj
    subst hsize hby
    have hsmall : n + m ≤ 9223372036854775807 := by simp only [maxLen] at h63; omega
    have hlen : (xs ++ news).length = (n + m) * i.size := by rw [List.length_append, hown.1, hl, Nat.add_mul]
    have grown : ∀ (old : Nat), old < n + m → ∀ S : Nat → Prop,
        Own (w.drew.alloc (.cells (xs.toArray ++ news.toArray ++ Builtin.zeroCells z.cells (grownCap w (n + m) old e - (n + m))) e)) base e i.size (.slice (some ⟨w.heap.size, 0, none⟩) (n + m) (grownCap w (n + m) old e)) (n + m) (xs ++ news) ∧
        Fr S w (w.drew.alloc (.cells (xs.toArray ++ news.toArray ++ Builtin.zeroCells z.cells (grownCap w (n + m) old e - (n + m))) e)) ∧
        blk (.slice (some ⟨w.heap.size, 0, none⟩) (n + m) (grownCap w (n + m) old e)) = some w.heap.size := by
      intro old ho S
      have hge := grownCap_ge w (n + m) old e
      have hcm : grownCap w (n + m) old e ≤ maxLen := grownCap_le_maxLen w (n + m) old e h63
      refine ⟨⟨hlen, .inr ⟨w.heap.size, 0, _, _, rfl, hbase, heap_alloc_new w.drew _, by omega, hge, hcm, ?_, ?_⟩⟩, ⟨rfl, rfl, rfl, by simp, fun k hk _ => Below.heap_alloc w.drew _ k hk⟩, ?_⟩
      · simp only [Array.size_append, List.size_toArray, size_zeroCells, hzs, hown.1, hl, ← Nat.add_mul, Nat.zero_add]
        exact Nat.le_of_eq (by congr 1; omega)
      · simp only [Array.toList_append, List.append_assoc, List.drop_zero]
        rw [← List.append_assoc, ← hlen]
        exact List.take_left
      · obtain ⟨c', hc'⟩ : ∃ c', grownCap w (n + m) old e = c' + 1 := ⟨grownCap w (n + m) old e - 1, by omega⟩
        rw [hc']
        rfl
    rcases hown.2 with ⟨B, rfl, rfl⟩ | ⟨g, o, cap, cur, rfl, hbg, hg, hcp, hnc, hcm', hcs, htake⟩
    · obtain rfl : xs = [] := List.eq_nil_of_length_eq_zero (by simpa using hown.1)
      obtain ⟨g1, g2, g3⟩ := grown 0 (by omega) (fun k => blk (.slice B 0 0) = some k)
      cases B with
      | none =>
        have hr := run_append_nil (P := P) w t ty e i z ht hi hz ⟨b, off, none⟩ m c news hl hc' (by omega) (by omega) (by have hb := hbytes; simp only [Nat.zero_add] at hb; omega)
        simp only [Nat.zero_add, List.nil_append, Array.empty_append] at g1 g2 g3 ⊢
        exact ⟨_, _, hr, g1, g2, .inr g3, fun h => absurd h hm⟩
      | some B =>
        have hr := run_append_grow (P := P) w t ty e i z ht hi hz B 0 0 [] (by simp) (by simp) ⟨b, off, none⟩ m c news hl hc' (by omega) (by omega) (growslice_fits (by omega) hbytes)
        exact ⟨_, _, hr, g1, g2, .inr g3, fun h => absurd h hm⟩
    · by_cases hroom : n + m ≤ cap
      · have e1 : (n + m) * i.size ≤ cap * i.size := Nat.mul_le_mul_right _ hroom
        have e2 : (n + m) * i.size = n * i.size + m * i.size := Nat.add_mul _ _ _
        have hf := run_firstCells_some (P := P) w i.size m ⟨b, off, none⟩ m c news hl hc'
        have hst := run_storeCells_at P g (o + n * i.size) e news 0 cur w hg (by omega) h1
        simp only [Nat.add_zero] at hst
        refine ⟨.slice (some ⟨g, o, none⟩) (n + m) cap, w.setRow g (cur.toList.take (o + n * i.size) ++ news ++ cur.toList.drop (o + n * i.size + news.length)).toArray, ?_, ⟨hlen, .inr ⟨g, o, cap, _, rfl, hbg, setRow_heap w g cur _ e _ hg, hcp, hroom, hcm', ?_, ?_⟩⟩, ⟨rfl, rfl, rfl, by simp, fun k _ hk => setRow_other w g k _ (fun e => hk ?_)⟩, .inl ?_, fun h => absurd h hm⟩
        · simp [Builtin.append_, run_underlying ht, sizeOf, typeInfo, hi, Builtin.lenOf, hroom, hf, Addr.add_lit, hst]
        · simp only [List.size_toArray, List.length_append, List.length_take, List.length_drop, Array.length_toList]
          omega
        · apply List.ext_getElem?
          intro k
          rw [← htake]
          have hcl : cur.toList.length = cur.size := Array.length_toList
          have hxl := hown.1
          by_cases hk : k < (n + m) * i.size
          · rw [List.getElem?_take, if_pos hk, List.getElem?_drop, List.append_assoc]
            by_cases hk2 : k < n * i.size
            · rw [List.getElem?_append_left (by rw [List.length_take]; omega), List.getElem?_append_left (by rw [List.length_take, List.length_drop]; omega), List.getElem?_take, if_pos (by omega), List.getElem?_take, if_pos hk2, List.getElem?_drop]
            · have L : (cur.toList.take (o + n * i.size) ++ (news ++ cur.toList.drop (o + n * i.size + news.length)))[o + k]? = news[k - n * i.size]? := by
                have hq : o + k - (cur.toList.take (o + n * i.size)).length = k - n * i.size := by rw [List.length_take]; omega
                rw [List.getElem?_append_right (by rw [List.length_take]; omega), hq, List.getElem?_append_left (by omega)]
              have R : ((cur.toList.drop o).take (n * i.size) ++ news)[k]? = news[k - n * i.size]? := by
                have hq : k - ((cur.toList.drop o).take (n * i.size)).length = k - n * i.size := by rw [List.length_take, List.length_drop]; omega
                rw [List.getElem?_append_right (by rw [List.length_take, List.length_drop]; omega), hq]
              rw [L, R]
          · rw [List.getElem?_eq_none (by rw [List.length_take]; omega), List.getElem?_eq_none (by rw [List.length_append, List.length_take, List.length_drop]; omega)]
        · obtain ⟨c', rfl⟩ : ∃ c', cap = c' + 1 := ⟨cap - 1, by omega⟩
          rw [e]
          rfl
        · obtain ⟨c', rfl⟩ : ∃ c', cap = c' + 1 := ⟨cap - 1, by omega⟩
          rfl
      · have holds : ∀ j u, xs[j]? = some u → w.cell? ((⟨g, o, none⟩ : Addr).add j) = some u := fun j u hj => by rw [Addr.add_lit]; exact hown.cells j u hj
        have hr := run_append_grow (P := P) w t ty e i z ht hi hz ⟨g, o, none⟩ n cap xs hown.1 holds ⟨b, off, none⟩ m c news hl hc' (by omega) (by omega) (growslice_fits (by omega) hbytes)
        obtain ⟨g1, g2, g3⟩ := grown cap (by omega) (fun k => blk (.slice (some ⟨g, o, none⟩) n cap) = some k)
        exact ⟨_, _, hr, g1, g2, .inr g3, fun h => absurd h hm⟩

/-- append at a step of a region that draws its order. -/
theorem step_append_seg {P : Program} {w : World} {ops : Array Oper} {o : Oper} {a : Act} {K : Act → World → Prop} {Q : Exit → Act → World → Prop} {E : Prop} (hgd : o.guard = none) (s x : Operand) (t : TypeId)
    (ho : o.op = .call { callee := .builtin .append, args := #[s, x], argTypes := #[t, t] })
    (base : Nat) (e : TypeId) (i : TypeInfo) (z : Value) (size bytes : Nat) (ht : P.underlying t = some (.slice e)) (hi : P.info? e = some i) (hz : i.zero = some z)
    (hsize : i.size = size) (hby : i.bytes = bytes) (hzs : z.cells.size = size) (hsz : 0 < size)
    (v : Value) (n : Nat) (xs : List Value) (hs : a.eval s = v) (hown : Own w base e size v n xs)
    (src : Value) (m : Nat) (news : List Value) (hx : a.eval x = src) (hsrc : Rd w size src m news) (h1 : ∀ u ∈ news, u.oneCell' = true)
    (h63 : n + m ≤ maxLen) (hbytes : (n + m) * bytes ≤ 140737488355328) (hbase : base ≤ w.heap.size)
    (h : ∀ v' w', Own w' base e size v' (n + m) (xs ++ news) → Fr (fun k => blk v = some k) w w' → (blk v' = blk v ∨ blk v' = some w.heap.size) → K (a.put o.dst v') w') :
    if Region.wanted o (yielded ops a.tmps) = true then Oper.wp P o a w K Q else E := by
  have hw : Region.wanted o (yielded ops a.tmps) = true := by simp [Region.wanted, hgd]
  rw [if_pos hw]
  obtain ⟨v', w', hr, h2, h3, h4, h5⟩ := run_append_seg (P := P) w base t o.type e i z size bytes ht hi hz hsize hby hzs hsz v n xs hown src m news hsrc h1 h63 hbytes hbase
  unfold Oper.wp execOp
  simp only [ho, resolve, invoke, builtin, Sem.run_bind, Sem.run_pure, Result.andThen_ok, List.map_toArray, List.map_cons, List.map_nil, hs, hx, hr]
  exact h v' w' h2 h3 h4
/-- One element in a block of its own. -/
theorem rd_one {w : World} {b size : Nat} {cs : List Value} {t : TypeId} (hb : w.heap[b]? = some (.cells cs.toArray t (0, 0))) (hs : cs.length = size) : Rd w size (.slice (some ⟨b, 0, none⟩) 1 1) 1 cs :=
  ⟨by omega, _, _, rfl, Nat.le_refl _, by unfold maxLen; omega, fun _ => ⟨b, 0, rfl, (Array.getElem?_eq_some_iff.1 hb).1, fun j u hj => by
    rw [cell_of_row w b (0 + j) _ _ _ hb]
    simpa using hj⟩⟩

theorem wpList_append_seg {P : Program} {w : World} {ops : Array Oper} {rest : List Oper} {o : Oper} {a : Act} {Q : Exit → Act → World → Prop} (hgd : o.guard = none) (s x : Operand) (t : TypeId)
    (ho : o.op = .call { callee := .builtin .append, args := #[s, x], argTypes := #[t, t] })
    (base : Nat) (e : TypeId) (i : TypeInfo) (z : Value) (size bytes : Nat) (ht : P.underlying t = some (.slice e)) (hi : P.info? e = some i) (hz : i.zero = some z)
    (hsize : i.size = size) (hby : i.bytes = bytes) (hzs : z.cells.size = size) (hsz : 0 < size)
    (v : Value) (n : Nat) (xs : List Value) (hs : a.eval s = v) (hown : Own w base e size v n xs)
    (src : Value) (m : Nat) (news : List Value) (hx : a.eval x = src) (hsrc : Rd w size src m news) (h1 : ∀ u ∈ news, u.oneCell' = true)
    (h63 : n + m ≤ maxLen) (hbytes : (n + m) * bytes ≤ 140737488355328) (hbase : base ≤ w.heap.size)
    (h : ∀ v' w', Own w' base e size v' (n + m) (xs ++ news) → Fr (fun k => blk v = some k) w w' → (blk v' = blk v ∨ blk v' = some w.heap.size) → (m = 0 → v' = v) → wpList P ops Q rest (a.put o.dst v') w') : wpList P ops Q (o :: rest) a w := by
  refine wpList_plain hgd fun K hK => ?_
  obtain ⟨v', w', hr, h2, h3, h4, h5⟩ := run_append_seg (P := P) w base t o.type e i z size bytes ht hi hz hsize hby hzs hsz v n xs hown src m news hsrc h1 h63 hbytes hbase
  unfold Oper.wp execOp
  simp only [ho, resolve, invoke, builtin, Sem.run_bind, Sem.run_pure, Result.andThen_ok, List.map_toArray, List.map_cons, List.map_nil, hs, hx, hr]
  exact hK _ _ (h v' w' h2 h3 h4 h5)

end Go.Proofs.Ytncgpojjibojlaa

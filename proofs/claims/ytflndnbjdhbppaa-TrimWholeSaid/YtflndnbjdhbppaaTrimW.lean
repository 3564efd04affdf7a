/- Which replica may go: the words for nodes, racks, loads; how many racks are left. No program in sight. -/
import Derived.Test.YtflndnbjdhbppaaTrimM
import Derived.Test.YtflndnbjdhbppaaGood
import Derived.Test.YtflndnbjdhbppaaLoad
namespace Go.Proofs.Ytflndnbjdhbppaa
open Go Go.RowKit

def gB (l : List Nq) (al : List Int) (z : Int) : Bool := servB l z && hasB al z
def idB (l : List Nq) (z : Int) : Bool := (findL l z).any (fun x => x.2.2.2 != 0)
def iB (l : List Nq) (al : List Int) (z : Int) : Bool := idB l z && hasB al z
theorem goodL_eq (h : List Int) (l : List Nq) (al : List Int) : goodL h l al = h.filter (gB l al) := by
  unfold goodL livL
  rw [List.filter_filter]
  rfl
def idlL (h : List Int) (l : List Nq) (al : List Int) : List Int := h.filter (iB l al)
theorem iB_dis (l : List Nq) (al : List Int) (z : Int) (h : iB l al z = true) : gB l al z = false := by
  unfold iB idB at h
  unfold gB servB
  cases e : findL l z with
  | none => rfl
  | some x =>
    rw [e] at h
    simp only [Option.any_some, Bool.and_eq_true, bne_iff_ne, ne_eq] at h
    simp [h.1]
def rackV (l : List Nq) (z : Int) : Int := ((findL l z).map (·.2.1)).getD 0
/-- Does another one of some stand on one's rack? -/
def shB (l : List Nq) (g : List Int) (z : Int) : Bool := g.any (fun y => (findL l y).isSome && y != z && rackV l y == rackV l z)
def btB (l : List Nq) (ld : List Ld) (g : List Int) (x y : Int) : Bool :=
  (shB l g x && !shB l g y) || (shB l g x == shB l g y && (decide (loadL ld y < loadL ld x) || (loadL ld x == loadL ld y && decide (y < x))))
def excT (h : List Int) (l : List Nq) (al : List Int) (ld : List Ld) (want : Int) : Option Int := excL (gB l al) (iB l al) (btB l ld) want h
def goneT (h : List Int) (l : List Nq) (al : List Int) (ld : List Ld) (want : Int) : List Int := goneL (gB l al) (iB l al) (btB l ld) want h
def restT (h : List Int) (l : List Nq) (al : List Int) (ld : List Ld) (want : Int) : List Int := restL (gB l al) (iB l al) (btB l ld) want h
def mn2 (w : Int) : Int := if w < 2 then w else 2
def wholeT (h : List Int) (l : List Nq) (al : List Int) (want : Int) : Bool := decide (((goodL h l al).length : Int) = want) && decide ((idlL h l al).length = 0) && decide (mn2 want ≤ (racksN l (goodL h l al) : Int))

theorem gB_found {l : List Nq} {al : List Int} {z : Int} (h : gB l al z = true) : ∃ x, findL l z = some x := by
  unfold gB servB at h
  cases e : findL l z with
  | none => rw [e] at h; simp at h
  | some x => exact ⟨x, rfl⟩
theorem rackOf_found {l : List Nq} {al : List Int} {z : Int} (h : gB l al z = true) : rackOf l z = some (rackV l z) := by
  obtain ⟨x, hx⟩ := gB_found h
  unfold rackOf rackV
  rw [hx]
  rfl
theorem racksOf_good {l : List Nq} {al : List Int} : ∀ g : List Int, (∀ z ∈ g, gB l al z = true) → racksOf l g = g.map (rackV l) := by
  intro g
  induction g with
  | nil => intro _; rfl
  | cons z g ih =>
    intro h
    unfold racksOf at ih ⊢
    rw [List.filterMap_cons, rackOf_found (h z (by simp)), List.map_cons, ih (fun y hy => h y (by simp [hy]))]
theorem nodup_dist {xs : List Int} (h : xs.Nodup) : (dist xs).length = xs.length :=
  Nat.le_antisymm (dist_le_len _) (h.length_le_of_subset (fun y hy => (dist_mem xs y).2 hy))
theorem shB_iff {l : List Nq} {al : List Int} {g : List Int} (hg : ∀ z ∈ g, gB l al z = true) {z : Int} : shB l g z = true ↔ ∃ y ∈ g, y ≠ z ∧ rackV l y = rackV l z := by
  unfold shB
  rw [List.any_eq_true]
  constructor
  · rintro ⟨y, hy, h⟩
    simp only [Bool.and_eq_true, bne_iff_ne, ne_eq, beq_iff_eq] at h
    exact ⟨y, hy, h.1.2, h.2⟩
  · rintro ⟨y, hy, h1, h2⟩
    obtain ⟨x, hx⟩ := gB_found (hg y hy)
    exact ⟨y, hy, by simp [hx, h1, h2]⟩
/-- How often a rack stands among some. -/
theorem sh_count {l : List Nq} {al : List Int} {g : List Int} (hd : g.Nodup) (hg : ∀ z ∈ g, gB l al z = true) {z : Int} (hz : z ∈ g) : decide (1 < (g.map (rackV l)).count (rackV l z)) = shB l g z := by
  rw [Bool.eq_iff_iff, shB_iff hg, decide_eq_true_eq]
  have e1 : (g.map (rackV l)).count (rackV l z) = (g.filter (fun y => rackV l y == rackV l z)).length := by
    rw [List.count, List.countP_map, List.countP_eq_length_filter]
    rfl
  rw [e1]
  have hzf : z ∈ g.filter (fun y => rackV l y == rackV l z) := List.mem_filter.2 ⟨hz, by simp⟩
  have hdf : (g.filter (fun y => rackV l y == rackV l z)).Nodup := hd.sublist List.filter_sublist
  constructor
  · intro hlt
    have h2 := woL_len hdf hzf
    have h3 : woL (g.filter (fun y => rackV l y == rackV l z)) z ≠ [] := fun e => by rw [e] at h2; simp at h2; omega
    obtain ⟨y, hy⟩ := List.exists_mem_of_ne_nil _ h3
    have h4 := woL_mem.1 hy
    have h5 := List.mem_filter.1 h4.1
    exact ⟨y, h5.1, h4.2, by simpa using h5.2⟩
  · rintro ⟨y, hy, hne, hr⟩
    have hyf : y ∈ woL (g.filter (fun y => rackV l y == rackV l z)) z := woL_mem.2 ⟨List.mem_filter.2 ⟨hy, by simpa using hr⟩, hne⟩
    have h2 := woL_len hdf hzf
    have := List.length_pos_of_mem hyf
    omega
theorem racks_shared {l : List Nq} {al : List Int} {g : List Int} (hg : ∀ z ∈ g, gB l al z = true) {n : Int} (hs : shB l g n = true) : racksN l (woL g n) = racksN l g := by
  unfold racksN
  rw [racksOf_good _ hg, racksOf_good _ (fun z hz => hg z (woL_mem.1 hz).1)]
  refine dist_eq_of fun r => ?_
  simp only [List.mem_map]
  constructor
  · rintro ⟨y, hy, e⟩
    exact ⟨y, (woL_mem.1 hy).1, e⟩
  · rintro ⟨y, hy, e⟩
    by_cases hyn : y = n
    · subst hyn
      obtain ⟨x, hx, h1, h2⟩ := (shB_iff hg).1 hs
      exact ⟨x, woL_mem.2 ⟨hx, h1⟩, h2.trans e⟩
    · exact ⟨y, woL_mem.2 ⟨hy, hyn⟩, e⟩
theorem racks_alone {l : List Nq} {al : List Int} {g : List Int} (hd : g.Nodup) (hg : ∀ z ∈ g, gB l al z = true) (hs : ∀ z ∈ g, shB l g z = false) : racksN l g = g.length := by
  unfold racksN
  rw [racksOf_good _ hg]
  have : (g.map (rackV l)).Nodup := by
    rw [List.Nodup, List.pairwise_map]
    refine List.Pairwise.imp_of_mem ?_ hd
    intro a b ha hb hne e
    have h1 := hs a ha
    rw [Bool.eq_false_iff] at h1
    exact h1 ((shB_iff hg).2 ⟨b, hb, fun e => hne e.symm, e.symm⟩)
  rw [nodup_dist this, List.length_map]
theorem racks_woL_alone {l : List Nq} {al : List Int} {g : List Int} (hd : g.Nodup) (hg : ∀ z ∈ g, gB l al z = true) (hs : ∀ z ∈ g, shB l g z = false) (n : Int) : racksN l (woL g n) = (woL g n).length := by
  refine racks_alone (al := al) (woL_nodup hd n) (fun z hz => hg z (woL_mem.1 hz).1) (fun z hz => ?_)
  have h1 := hs z (woL_mem.1 hz).1
  rw [Bool.eq_false_iff] at h1 ⊢
  intro h2
  obtain ⟨y, hy, h3, h4⟩ := (shB_iff (fun z hz => hg z (woL_mem.1 hz).1)).1 h2
  exact h1 ((shB_iff hg).2 ⟨y, (woL_mem.1 hy).1, h3, h4⟩)

theorem gone_racks {l : List Nq} {al : List Int} {ld : List Ld} {want : Int} : ∀ h : List Int, h.Nodup → want ≤ racksN l ((restT h l al ld want).filter (gB l al)) ∨ racksN l (h.filter (gB l al)) ≤ racksN l ((restT h l al ld want).filter (gB l al)) := by
  unfold restT
  refine gone_ind (G := gB l al) (I := iB l al) (bt := btB l ld) (want := want) (fun h he _ => ?_) (fun h n he ih hd => ?_)
  · rw [restL_none he]; exact .inr (Nat.le_refl _)
  · rw [restL_some he]
    have h0 := ih (woL_nodup hd n)
    rw [woL_filter] at h0
    have hg : ∀ z ∈ h.filter (gB l al), gB l al z = true := fun z hz => (List.mem_filter.1 hz).2
    have hgd : (h.filter (gB l al)).Nodup := hd.sublist List.filter_sublist
    rcases (excL_some he).2.2.2 with h1 | ⟨_, h1, h2, h3⟩
    · rw [woL_not (h := h.filter (gB l al)) (fun hm => by have := (List.mem_filter.1 hm).2; rw [iB_dis l al n h1] at this; cases this)] at h0
      exact h0
    · cases hs : shB l (h.filter (gB l al)) n with
      | true =>
        rw [racks_shared hg hs] at h0
        exact h0
      | false =>
        have hall : ∀ z ∈ h.filter (gB l al), shB l (h.filter (gB l al)) z = false := by
          refine maxF_lacks (bt := btB l ld (h.filter (gB l al))) (s := shB l (h.filter (gB l al))) ?_ ?_ (by rw [← h3]; exact hs)
          · intro x y hb hy
            unfold btB at hb
            cases hx : shB l (h.filter (gB l al)) x with
            | true => rfl
            | false => rw [hx, hy] at hb; simp at hb
          · intro x y hx hy
            unfold btB
            rw [hx, hy]
            rfl
        rw [racks_woL_alone hgd hg hall] at h0
        have := woL_len hgd (List.mem_filter.2 ⟨(excL_some he).2.2.1, h1⟩ : n ∈ h.filter (gB l al))
        rcases h0 with h0 | h0
        · exact .inl h0
        · exact .inl (by omega)

/-- A chunk that is whole has nothing that may go. -/
theorem whole_none {h : List Int} {l : List Nq} {al : List Int} {ld : List Ld} {want : Int} (hw : wholeT h l al want = true) : excT h l al ld want = none := by
  unfold wholeT at hw
  simp only [Bool.and_eq_true, decide_eq_true_eq] at hw
  rw [goodL_eq] at hw
  exact excL_just (List.eq_nil_of_length_eq_zero hw.1.2) hw.1.1
end Go.Proofs.Ytflndnbjdhbppaa

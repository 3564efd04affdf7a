/- Which nodes take a chunk, one behind the other: in plain words. -/
import Derived.Test.YthmifcbhbcjeiaaPlaceRacks
namespace Go.Proofs.Ythmifcbhbcjeiaa
open Go Go.RowKit

def moreD (ld : List Ld) (t : Int) : List Ld := (t, loadL ld t + 1) :: ld
def manyF (l : List Nq) (al : List Int) : Nat → List Ld → List Int → List Int
  | 0, _, _ => []
  | f + 1, ld, ho => match tgtL l al ld ho with
    | none => []
    | some a => a.1 :: manyF l al f (moreD ld a.1) (ho ++ [a.1])
def freeN (l : List Nq) (ho : List Int) : Nat := (l.filter (fun x => !hasB ho x.1)).length
theorem freeN_le (l : List Nq) (ho : List Int) : freeN l ho ≤ l.length := List.length_filter_le _ _
theorem hasB_snoc (ho : List Int) (t z : Int) : hasB (ho ++ [t]) z = (hasB ho z || z == t) := by
  rw [Bool.eq_iff_iff]
  simp only [Bool.or_eq_true, hasB_iff, List.mem_append, List.mem_singleton, beq_iff_eq]
theorem freeN_snoc {l : List Nq} {ho : List Int} {a : Nq} (ha : a ∈ l) (h : hasB ho a.1 = false) : freeN l (ho ++ [a.1]) + 1 ≤ freeN l ho := by
  unfold freeN
  have e : (fun x : Nq => !hasB (ho ++ [a.1]) x.1) = fun x => (!(x.1 == a.1)) && !hasB ho x.1 := by
    funext x
    rw [hasB_snoc]
    cases hasB ho x.1 <;> cases x.1 == a.1 <;> rfl
  rw [e, ← List.filter_filter]
  have hm : a ∈ l.filter (fun x => !hasB ho x.1) := List.mem_filter.2 ⟨ha, by simp [h]⟩
  have := List.length_filter_lt_length_iff_exists (p := fun x : Nq => !(x.1 == a.1)) (l := l.filter (fun x => !hasB ho x.1))
  exact this.2 ⟨a, hm, by simp⟩
theorem posD_more {ld : List Ld} (h : posD ld) (t : Int) : posD (moreD ld t) := by
  intro y hy
  rcases List.mem_cons.1 hy with rfl | hy
  · have := load_nn h t
    show 0 ≤ loadL ld t + 1
    omega
  · exact h y hy
theorem moreD_len (ld : List Ld) (t : Int) : (moreD ld t).length = ld.length + 1 := rfl
theorem tgtL_free {l : List Nq} {al : List Int} {ld : List Ld} {ho : List Int} {a : Nq} (h : tgtL l al ld ho = some a) : freeN l (ho ++ [a.1]) + 1 ≤ freeN l ho := by
  obtain ⟨ha, hm⟩ := tgtL_ok h
  exact freeN_snoc ha (mayT_spec ha hm).2.2.2.1
theorem tgtL_load {l : List Nq} {al : List Int} {ld : List Ld} {ho : List Int} {a : Nq} (h : tgtL l al ld ho = some a) : loadL ld a.1 < 16 := by
  obtain ⟨ha, hm⟩ := tgtL_ok h
  obtain ⟨_, _, _, _, h1, h2⟩ := mayT_spec ha hm
  omega

end Go.Proofs.Ythmifcbhbcjeiaa

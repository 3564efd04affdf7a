/- nodes.In: its contract. -/
import Derived.Test.YtflndnbjdhbppaaNodesR
namespace Go.Proofs.Ytflndnbjdhbppaa
open Go Go.RowKit

def inS (s : Int) (l : List Nq) : List Int := (l.filter (fun x => x.2.2.2 == s)).map noI
def inL (l : List Nq) (s : Int) : List Int := inS s (fairL l)
theorem inS_snoc (s : Int) (l : List Nq) (x : Nq) : inS s (l ++ [x]) = inS s l ++ (if x.2.2.2 == s then [noI x] else []) := by
  unfold inS
  rw [List.filter_append, List.map_append]
  congr 1
  by_cases h : (x.2.2.2 == s) = true
  · rw [if_pos h]; simp [List.filter, h]
  · rw [if_neg h]; simp [List.filter, h]
theorem inS_len (s : Int) (l : List Nq) : (inS s l).length ≤ l.length := by
  unfold inS
  rw [List.length_map]
  exact List.length_filter_le _ _



end Go.Proofs.Ytflndnbjdhbppaa

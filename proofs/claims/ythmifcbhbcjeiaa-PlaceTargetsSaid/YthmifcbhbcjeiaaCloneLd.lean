/- slices.Clone at api.Load: its contract. -/
import Derived.Test.YthmifcbhbcjeiaaInsertLd
import Derived.Lib.SliceRun
namespace Go.Proofs.Ythmifcbhbcjeiaa
open Go Go.RowKit

/-- A slice of the call's own, laid anew. -/
def FreshE_ld (n : Nat) (xs : List Value) (w : World) (en : Ending) (w' : World) : Prop := ∃ v', en = .returned v' ∧ Own w' w.heap.size 63 2 v' n xs ∧ Below w.heap.size w w'

theorem clone_ld (v : Value) (l : List Ld) (w : World) (hl : l.length ≤ 1000) (hR : Rd w 2 v l.length (l.flatMap ldC)) :
    Calls Try.prog 58 #[v] w (FreshE_ld l.length (l.flatMap ldC) w) := by
  obtain ⟨ii, hii, hz0, hz1, hz2⟩ := info_parts info_ld
  obtain ⟨A, cap, hv, hcap, hnc⟩ := hR.shape
  subst hv
  have HR := Lib.hid hR
  clear hR
  have hq := fun w a n c => Lib.run_eql_slice_nil (P := Try.prog) w 43 63 a n c 0 0 Try.underlying43
  cases A with
  | none =>
    have h0 : l.length = 0 := by
      rcases Nat.eq_zero_or_pos l.length with h | h
      · exact h
      · obtain ⟨b, off, hA, _⟩ := HR.out.addr h
        cases hA
    have hl0 : l = [] := List.eq_nil_of_length_eq_zero h0
    subst hl0
    go_enter Try.func58, Try.ntmps58
    go_wp2
    go_ret
    exact ⟨_, rfl, Own.nil_ _ _ _ _, Below.refl _ _⟩
  | some a =>
    go_enter Try.func58, Try.ntmps58
    go_wp2_with (at_builtin; refine wpList_append_seg rfl _ _ 43 rfl w.heap.size 63 ii _ 2 16 (by kernel_rfl) hii hz0 hz1 hz2 rfl (by omega) (.slice (some ⟨w.heap.size, 0, none⟩) 0 0) 0 [] rfl ⟨by simp, .inl ⟨_, rfl, rfl⟩⟩ (.slice (some a) l.length cap) l.length (l.flatMap ldC) rfl (HR.out.alloc _) (ldC_one l) (by unfold maxLen; omega) (by omega) (by simp) ?_; intro v1 w1 hown1 hfr1 hb1 _)
    go_ret
    refine ⟨_, rfl, ?_, ?_⟩
    · simpa using hown1
    · exact ((Below.refl _ _).alloc (Nat.le_refl _) _ : Below w.heap.size w (w.alloc _)).trans (hfr1.below (by simp) (fun i hi => by simp [blk] at hi))

end Go.Proofs.Ythmifcbhbcjeiaa

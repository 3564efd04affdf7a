/- slices.Clone at api.Replica: its contract. -/
import Derived.Test.YtncgpojjibojlaaInsertReq
import Derived.Lib.SliceRun
namespace Go.Proofs.Ytncgpojjibojlaa
open Go Go.RowKit

/-- A slice of the call's own, laid anew. -/
def FreshE_re (n : Nat) (xs : List Value) (w : World) (en : Ending) (w' : World) : Prop := ∃ v', en = .returned v' ∧ Own w' w.heap.size 52 5 v' n xs ∧ Below w.heap.size w w'

theorem clone_re (v : Value) (l : List Re) (w : World) (hl : l.length ≤ 1000) (hR : Rd w 5 v l.length (l.flatMap reC)) :
    Calls Try.prog 92 #[v] w (FreshE_re l.length (l.flatMap reC) w) := by
  obtain ⟨ii, hii, hz0, hz1, hz2⟩ := info_parts info_re
  obtain ⟨A, cap, hv, hcap, hnc⟩ := hR.shape
  subst hv
  have HR := Lib.hid hR
  clear hR
  have hq := fun w a n c => Lib.run_eql_slice_nil (P := Try.prog) w 41 52 a n c 0 0 Try.underlying41
  cases A with
  | none =>
    have h0 : l.length = 0 := by
      rcases Nat.eq_zero_or_pos l.length with h | h
      · exact h
      · obtain ⟨b, off, hA, _⟩ := HR.out.addr h
        cases hA
    have hl0 : l = [] := List.eq_nil_of_length_eq_zero h0
    subst hl0
    go_enter Try.func92, Try.ntmps92
    go_wp2
    go_ret
    exact ⟨_, rfl, Own.nil_ _ _ _ _, Below.refl _ _⟩
  | some a =>
    go_enter Try.func92, Try.ntmps92
    go_wp2_with (at_builtin; refine wpList_append_seg rfl _ _ 41 rfl w.heap.size 52 ii _ 5 24 (by kernel_rfl) hii hz0 hz1 hz2 rfl (by omega) (.slice (some ⟨w.heap.size, 0, none⟩) 0 0) 0 [] rfl ⟨by simp, .inl ⟨_, rfl, rfl⟩⟩ (.slice (some a) l.length cap) l.length (l.flatMap reC) rfl (HR.out.alloc _) (reC_one l) (by unfold maxLen; omega) (by omega) (by simp) ?_; intro v1 w1 hown1 hfr1 hb1 _)
    go_ret
    refine ⟨_, rfl, ?_, ?_⟩
    · simpa using hown1
    · exact ((Below.refl _ _).alloc (Nat.le_refl _) _ : Below w.heap.size w (w.alloc _)).trans (hfr1.below (by simp) (fun i hi => by simp [blk] at hi))

end Go.Proofs.Ytncgpojjibojlaa

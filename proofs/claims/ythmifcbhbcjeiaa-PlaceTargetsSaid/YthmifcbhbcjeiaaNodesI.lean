/- nodes.In: its contract. -/
import Derived.Test.YthmifcbhbcjeiaaNodesR
namespace Go.Proofs.Ythmifcbhbcjeiaa
open Go Go.RowKit

def inS (s : Int) (l : List Nq) : List Int := (l.filter (fun x => x.2.2.2 == s)).map noI
def inL (l : List Nq) (s : Int) : List Int := inS s (fairL l)
theorem inS_snoc (s : Int) (l : List Nq) (x : Nq) : inS s (l ++ [x]) = inS s l ++ (if x.2.2.2 == s then [noI x] else []) := by
  unfold inS
  rw [List.filter_append, List.map_append]
  congr 1
  by_cases h : (x.2.2.2 == s) = true
  · rw [if_pos h]; simp [List.filter, h]
  · rw [if_neg h]; simp [List.filter, h]
theorem inS_len (s : Int) (l : List Nq) : (inS s l).length ≤ l.length := by
  unfold inS
  rw [List.length_map]
  exact List.length_filter_le _ _

set_option maxHeartbeats 1000000 in
set_option maxRecDepth 100000 in
theorem in_any (v : Value) (l : List Nq) (s : Int) (w : World) (hl : l.length ≤ 1000) (hR : Rd w 4 v l.length (l.flatMap noC)) :
    Calls Try.prog 20 #[v, .int .i64 s] w (FreshE 3 1 (inL l s).length ((inL l s).flatMap inC) w) := by
  obtain ⟨ii, hii, hz0, hz1, hz2⟩ := info_parts infoInt
  have HR := Lib.hid hR
  clear hR
  have hfl := fairL_len l
  go_enter Try.func20, Try.ntmps20
  go_wp2_with fail
  refine (fair_any v l w hl HR.out).mono ?_
  rintro e w1 ⟨v1, rfl, hown1, hb1⟩
  obtain ⟨A1, cap1, hv1⟩ := hown1.slice_
  subst hv1
  obtain ⟨m, hm⟩ : ∃ m, (fairL l).length = m := ⟨_, rfl⟩
  have HM := Lib.hid hm
  have HR1 := Lib.hid hown1.rd
  have HB1 := Lib.hid hb1
  have hs1 := hb1.size
  rw [hm] at hfl ⊢
  clear hown1 hb1 hm
  go_wp2_with fail
  go_loopw [5, 11] (fun s5 s11 wr => ∃ k : Nat, k ≤ m ∧ s11 = .int .i64 k ∧ Own wr w1.heap.size 3 1 s5 (inS s ((fairL l).take k)).length ((inS s ((fairL l).take k)).flatMap inC) ∧ Below w1.heap.size w1 wr) (fun _ s11 _ => m - (intOf s11).toNat)
  case atStart => exact ⟨0, Nat.zero_le _, rfl, by rw [List.take_zero]; exact Own.nil_ _ _ _ _, Below.refl _ _⟩
  case round =>
    obtain ⟨k, hk, rfl, hown, hbel⟩ := hrel
    obtain ⟨A5, cap5, hv5⟩ := hown.slice_
    subst hv5
    have HO := Lib.hid hown
    have HB := Lib.hid hbel
    have hsr := hbel.size
    have hql : (inS s ((fairL l).take k)).length ≤ k := Nat.le_trans (inS_len _ _) (by rw [List.length_take]; omega)
    obtain ⟨q, hq⟩ : ∃ q, inS s ((fairL l).take k) = q := ⟨_, rfl⟩
    have HQ := Lib.hid hq
    rw [hq] at hql HO ⊢
    clear hown hbel hq
    by_cases hlt : k < m
    · have hltI : (k : Int) < (m : Int) := by omega
      have hR1 := HR1.out.below HB.out (Nat.le_refl _)
      rw [HM.out] at hR1
      obtain ⟨b, off, hA, hbl⟩ := hR1.addr (by omega)
      subst hA
      obtain ⟨c0, c1, c2, c3⟩ := rd_no hR1 k (by rw [HM.out]; exact hlt)
      obtain ⟨x, hx⟩ : ∃ x, at_ (fairL l) k = x := ⟨_, rfl⟩
      rw [hx] at c0 c1 c2 c3
      have HX : Hid (inS s ((fairL l).take (k + 1)) = q ++ (if x.2.2.2 == s then [noI x] else [])) := by rw [take_at (by rw [HM.out]; exact hlt), hx, inS_snoc, HQ.out]; exact rfl
      clear hx hR1
      obtain ⟨x0, x1, x2, x3⟩ := x
      simp only [noI] at c0 c1 c2 c3 HX
      by_cases hs : x3 = s
      · subst hs
        go_wp2_with (at_builtin; refine wpList_append_seg rfl _ _ 23 rfl w1.heap.size 3 ii _ 1 8 (by kernel_rfl) hii hz0 hz1 hz2 rfl (by omega) (.slice A5 q.length cap5) q.length (q.flatMap inC) rfl ((HO.out.alloc _).alloc _) (.slice (some ⟨wr.heap.size + 1, 0, none⟩) 1 1) 1 (inC x0) rfl (rd_one (t := 3) (by have := heap_alloc_new (wr.alloc (.cells #[.int .i64 x0, .int .i64 x1, .int .i64 x2, .int .i64 x3] 28)) (.cells #[.int .i64 x0] 3); rw [World.size_alloc] at this; exact this) rfl) (by simp [inC, Value.oneCell']) (by unfold maxLen; omega) (by omega) (by simp; omega) ?_; intro v4 w4 hown4 hfr4 hb4 _; have HN4 := Lib.hid hown4; have HF4 := Lib.hid (hfr4.below (B := w1.heap.size) (by simp; omega) (fun k hk => (HO.out.blk_lt hk).1)); clear hown4 hfr4 hb4)
        go_roundw
        case rel =>
          refine ⟨k + 1, by omega, by go_num, ?_, ((HB.out.alloc hsr _).alloc (by simp; omega) _).trans HF4.out⟩
          rw [HX.out]
          simp only [beq_self_eq_true, if_true, List.length_append, List.flatMap_append, flat_one]
          exact HN4.out
        case measure => simp [intOf]; omega
      · have hs' : (x3 == s) = false := by simpa using hs
        go_wp2_with fail
        go_roundw
        case rel =>
          refine ⟨k + 1, by omega, by go_num, ?_, HB.out.alloc hsr _⟩
          rw [HX.out, hs']
          simp only [Bool.false_eq_true, if_false, List.append_nil]
          exact HO.out.alloc _
        case measure => simp [intOf]; omega
    · obtain rfl : k = m := by omega
      go_wp2_with fail
      go_ret
      refine ⟨_, rfl, ?_, HB1.out.trans (HB.out.mono hs1)⟩
      have : inL l s = q := by rw [← HQ.out, ← HM.out, List.take_length]; exact rfl
      rw [this]
      exact HO.out.mono hs1


end Go.Proofs.Ythmifcbhbcjeiaa

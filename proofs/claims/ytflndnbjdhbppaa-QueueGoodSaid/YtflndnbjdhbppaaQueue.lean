/- The queue: New, Put, Take, Len. -/
import Derived.Test.YtflndnbjdhbppaaUpA
import Derived.Test.YtflndnbjdhbppaaDnA
import Derived.Deep.RegionLaw
import Derived.Deep.DrawnRows
namespace Go.Proofs.Ytflndnbjdhbppaa
open Go Go.RowKit

theorem infoNeed : (Try.prog.info? 27).map (fun i => (i.zero, i.size, i.bytes)) = some (some (.agg #[.int .i64 0, .int .i64 0, .int .i64 0]), 3, 24) := by kernel_rfl

/-- The queue with these needs, in a heap's order. -/
def QAt (w : World) (base q : Nat) (v : Value) (d : List Nd) : Prop := HpAt w base q v d ∧ HO d

theorem new_any (w : World) : Calls Try.prog 14 #[] w fun e w' => e = .returned (.pointer (some ⟨w.heap.size, 0, none⟩)) ∧ QAt w' w.heap.size w.heap.size (.slice none 0 0) [] ∧ Below w.heap.size w w' := by
  go_enter Try.func14, Try.ntmps14
  go_wp2
  go_ret
  refine ⟨rfl, ⟨⟨heap_alloc_new _ _, Nat.le_refl _, Own.nil_ _ _ _ _⟩, fun k _ h => absurd h (by simp)⟩, (Below.refl _ _).alloc (Nat.le_refl _) _⟩

theorem len_any (w : World) (base q : Nat) (v : Value) (d : List Nd) (h : HpAt w base q v d) (hd : d.length ≤ 1000) :
    Calls Try.prog 18 #[.pointer (some ⟨q, 0, none⟩)] w fun e w' => e = .returned (.int .i64 d.length) ∧ w = w' := by
  have hq := h.c0
  obtain ⟨A, cap, hv⟩ : ∃ A cap, v = .slice A d.length cap := by
    rcases h.own.2 with ⟨A, h1, h2⟩ | ⟨g, off, cap, cur, h1, _⟩
    · exact ⟨A, 0, by rw [h1, h2]⟩
    · exact ⟨_, _, h1⟩
  rw [hv] at hq
  clear h hv
  generalize d.length = n at *
  go_enter Try.func18, Try.ntmps18
  go_wp2
  go_ret
  exact ⟨rfl, rfl⟩

set_option maxHeartbeats 1000000 in
theorem put_any (w : World) (base q : Nat) (v : Value) (d : List Nd) (x : Nd) (h : QAt w base q v d) (hd : d.length < 1000) :
    Calls Try.prog 15 #[.pointer (some ⟨q, 0, none⟩), .agg #[.int .i64 x.1, .int .i64 x.2.1, .int .i64 x.2.2]] w fun e w' => e = .returned (.tuple #[]) ∧
      ∃ v' d', QAt w' base q v' d' ∧ d'.Perm (x :: d) ∧ Fr (fun k => k = q ∨ blk v = some k) w w' ∧ (blk v' = blk v ∨ ∃ k, blk v' = some k ∧ w.heap.size ≤ k) := by
  obtain ⟨a0, a1, a2⟩ := x
  obtain ⟨ii, hi, hz0, hz1, hz2⟩ := info_parts infoNeed
  have hq := h.1.c0
  have hqz : w.frozen? ⟨q, 0, none⟩ = false := by simp [World.frozen?, h.1.at_]
  have HH := Lib.hid h
  clear h
  go_enter Try.func15, Try.ntmps15
  go_wp2_with fail
  have hbs : base ≤ w.heap.size := by have := HH.out.1.base_; have := HH.out.1.lt; omega
  have hlt := HH.out.1.lt
  have hH1 := HH.out.1.below ((Below.refl w.heap.size w).alloc (Nat.le_refl _) (.cells #[.int .i64 a0, .int .i64 a1, .int .i64 a2] 27))
  have hF1 := Fr.alloc w (.cells #[.int .i64 a0, .int .i64 a1, .int .i64 a2] 27) (fun k => k = q ∨ blk v = some k)
  have hsz : (w.alloc (.cells #[.int .i64 a0, .int .i64 a1, .int .i64 a2] 27)).heap.size = w.heap.size + 1 := by simp
  have hbx := heap_alloc_new w (.cells #[.int .i64 a0, .int .i64 a1, .int .i64 a2] 27)
  have b0 := cell_of_row _ _ 0 _ _ _ hbx
  have b1 := cell_of_row _ _ 1 _ _ _ hbx
  have b2 := cell_of_row _ _ 2 _ _ _ hbx
  simp only [List.getElem?_toArray, List.getElem?_cons_zero, List.getElem?_cons_succ] at b0 b1 b2
  generalize w.alloc (.cells #[.int .i64 a0, .int .i64 a1, .int .i64 a2] 27) = W at *
  have hq := hH1.c0
  have hqz : W.frozen? ⟨q, 0, none⟩ = false := by simp [World.frozen?, hH1.at_]
  have HH1 := Lib.hid hH1
  have HF1 := Lib.hid hF1
  have HS := Lib.hid hsz
  clear hH1 hF1 hsz hbx
  have hqW : q < W.heap.size := by have := HS.out; omega
  have hbs1 : base ≤ W.heap.size := by have := HS.out; omega
  obtain ⟨B, hB⟩ : ∃ B, w.heap.size = B := ⟨_, rfl⟩
  rw [hB] at b0 b1 b2 ⊢
  have HBB := Lib.hid hB
  clear hB
  go_region_law ((refine step_append_seg (by rfl) (.tmp 9) (.tmp 11) 22 (by rfl) base 27 ii _ 3 24 (by kernel_rfl) hi hz0 hz1 hz2 (by rfl) (by omega) v d.length (d.flatMap ndC) (by rfl) (by repeat (first | exact HH1.out.own | refine Own.alloc ?_ _ | refine Own.drew ?_ | refine Own.drewN ?_ _)) (.slice (some ⟨W.heap.size, 0, none⟩) 1 1) 1 (ndC (a0, a1, a2)) (by rfl) (rd_one (t := 27) (heap_alloc_new _ _) rfl) (by simp [ndC, Value.oneCell']) (by unfold maxLen; omega) (by omega) (by have := hbs1; simp; try omega) ?_; intro v' w1 hown1 hfr1 hb1; obtain ⟨A1, cap1, hv1⟩ := hown1.slice_; subst hv1; have hat1 := (hfr1.block q (by have := HH1.out.lt; simp; try omega) (fun e => HH1.out.ne e)).trans ((Below.heap_alloc _ _ q HH1.out.lt).trans HH1.out.at_); have hq1 := cell_of_row w1 q 0 _ _ _ hat1; have hz1 : w1.frozen? ⟨q, 0, none⟩ = false := (by simp [World.frozen?, hat1]); simp only [List.getElem?_toArray, List.getElem?_cons_zero] at hq1))
  all_goals (clear hq1 hz1)
  all_goals go_wp2_with fail
  all_goals
    have hne1 : blk (.slice A1 (d.length + 1) cap1) ≠ some q := by
      intro e
      rcases hb1 with h | h
      · exact HH1.out.ne (h.symm.trans e)
      · have h1 : W.heap.size + 1 = q := by have := h.symm.trans e; simpa using this
        omega
    have hS : HpAt (w1.setCell ⟨q, 0, none⟩ (.slice A1 (d.length + 1) cap1)) base q (.slice A1 (d.length + 1) cap1) (d ++ [(a0, a1, a2)]) := by
      refine ⟨?_, HH1.out.base_, ?_⟩
      · simp [World.setCell, Array.getElem?_modify, hat1]
      · have := hown1.keep (w' := w1.setCell ⟨q, 0, none⟩ (.slice A1 (d.length + 1) cap1)) (fun g hg => Below.heap_setCell _ _ _ _ (fun e => hne1 (hg.trans (by rw [e]))))
        rw [List.flatMap_append, flat_one, List.length_append]
        exact this
    have hfrS : Fr (fun k => k = q ∨ blk v = some k) w (w1.setCell ⟨q, 0, none⟩ (.slice A1 (d.length + 1) cap1)) :=
      ((HF1.out.thenAlloc _).thenDrew.trans hfr1 (fun i hi => .inl (.inr hi))).thenSet _ _ (.inl (.inl rfl))
    refine (up_any _ base q _ _ (by simp; omega) (by simp) hS (by simpa using up_start d (a0, a1, a2) HH.out.2)).mono ?_
    rintro e w2 ⟨rfl, d', hp, hho, hat, hfr⟩
    go_wp2_with fail
    go_end0
    refine ⟨rfl, _, d', ⟨hat, hho⟩, hp.trans List.perm_append_comm, hfrS.trans hfr (fun i hi => ?_), ?_⟩
    · rcases hb1 with h | h
      · exact .inl (.inr (h.symm.trans hi))
      · exact .inr (by have h1 : W.heap.size + 1 = i := by (have := h.symm.trans hi; simpa using this)
                       have := HS.out; have := HBB.out; omega)
    · rcases hb1 with h | h
      · exact .inl h
      · exact .inr ⟨_, h, by have := HS.out; have := HBB.out; simp; omega⟩

end Go.Proofs.Ytflndnbjdhbppaa

/- nodes.between, may, May: their contracts. -/
import Derived.Test.YtflndnbjdhbppaaNodesM
import Derived.Test.YtflndnbjdhbppaaCmp1
namespace Go.Proofs.Ytflndnbjdhbppaa
open Go Go.RowKit

def btw (lo hi n : Int) : Bool := decide (lo ≤ n ∧ n ≤ hi)

theorem between_any (n lo hi : Int) (w : World) :
    Calls Try.prog 79 #[.int .i64 n, .int .i64 lo, .int .i64 hi] w fun e w' => e = .returned (.bool (btw lo hi n)) ∧ w = w' := by
  by_cases h1 : lo ≤ n
  · by_cases h2 : n ≤ hi
    · go_enter Try.func79, Try.ntmps79
      go_wp2
      go_ret
      exact ⟨by simp [btw, h1, h2], rfl⟩
    · go_enter Try.func79, Try.ntmps79
      go_wp2
      go_ret
      exact ⟨by simp [btw, h1, h2], rfl⟩
  · go_enter Try.func79, Try.ntmps79
    go_wp2
    go_ret
    exact ⟨by rw [show btw lo hi n = false from decide_eq_false (fun h => absurd h.1 (by omega))]; rfl, rfl⟩

theorem mayN_btw (a b c d : Int) : mayN (a, b, c, d) = (btw 1 16 a && btw 1 8 b && btw 1 16 c && btw 0 2 d) := by
  simp only [mayN, mayP, btw, ← Bool.decide_and, and_assoc]

theorem may_any (a b c d : Int) (w : World) :
    Calls Try.prog 77 #[.agg #[.int .i64 a, .int .i64 b, .int .i64 c, .int .i64 d]] w fun e w' => e = .returned (.bool (mayN (a, b, c, d))) ∧ Below w.heap.size w w' := by
  rw [mayN_btw]
  go_enter Try.func77, Try.ntmps77
  go_wp2_with (go_at_call 79; refine (between_any _ _ _ _).mono ?_; rintro e w' ⟨rfl, rfl⟩)
  all_goals go_ret
  all_goals refine ⟨?_, below_one _ _⟩
  all_goals simp [*]

set_option maxHeartbeats 1000000 in
theorem May_any (v : Value) (l : List Nq) (w : World) (hR : Rd w 4 v l.length (l.flatMap noC)) :
    Calls Try.prog 71 #[v] w fun e w' => e = .returned (.bool (mayL l)) ∧ Below w.heap.size w w' := by
  obtain ⟨A, cap, hv, hcap, hnc⟩ := hR.shape
  subst hv
  obtain ⟨n, hn⟩ : ∃ n, l.length = n := ⟨_, rfl⟩
  have HR := Lib.hid hR
  have HN := Lib.hid hn
  rw [hn] at hnc ⊢
  clear hR hn
  have hnm : n ≤ 9223372036854775807 := by omega
  go_enter Try.func71, Try.ntmps71
  go_wp2_with fail
  go_loopw [3, 8] (fun s3 s8 wr => ∃ (k : Nat) (last : Int), s8 = .int .i64 k ∧ k ≤ n ∧ s3 = .int .i64 last ∧ (k = 0 ∧ last = 0 ∨ 0 < k ∧ last = (at_ l (k - 1)).1) ∧ (∀ j, j < k → mayP (at_ l j) ∧ (0 < j → (at_ l (j - 1)).1 < (at_ l j).1)) ∧ Below w.heap.size w wr) (fun _ s8 _ => n - (intOf s8).toNat)
  case atStart => exact ⟨0, 0, rfl, by omega, rfl, .inl ⟨rfl, rfl⟩, fun j hj => absurd hj (by omega), Below.refl _ _⟩
  case round =>
    obtain ⟨k, last, rfl, hk, rfl, hlast, hall, hbel⟩ := hrel
    have HL := Lib.hid hlast
    have HA := Lib.hid hall
    have HB := Lib.hid hbel
    clear hlast hall hbel
    by_cases hlt : k < n
    · have hltI : (k : Int) < (n : Int) := by omega
      have hR1 := HR.out.below HB.out (Nat.le_refl _)
      rw [HN.out] at hR1
      obtain ⟨b, off, hA, hbl⟩ := hR1.addr (by omega)
      subst hA
      obtain ⟨c0, c1, c2, c3⟩ := rd_no hR1 k (by rw [HN.out]; exact hlt)
      obtain ⟨x, hx⟩ : ∃ x, at_ l k = x := ⟨_, rfl⟩
      rw [hx] at c0 c1 c2 c3
      obtain ⟨x0, x1, x2, x3⟩ := x
      simp only at c0 c1 c2 c3
      have HX := Lib.hid hx
      have hWr := HB.out.size
      have HAL := Lib.hid (below_one wr (.cells #[.int .i64 x0, .int .i64 x1, .int .i64 x2, .int .i64 x3] 58))
      clear hx hR1
      go_wp2_with (go_at_call 77; refine (may_any _ _ _ _ _).mono ?_; rintro e w1 ⟨rfl, hb1⟩; have t0 := (hb1.cell (p := ⟨wr.heap.size, 0, none⟩) (by simp)).trans (World.cell?_alloc_at _ _ _ _ (by simp)); have HB1 := Lib.hid (below_then HAL.out hb1); clear hb1; simp only [List.getElem?_toArray, List.getElem?_cons_zero] at t0)
      · have h1 : x0 ≤ last := by assumption
        go_ret
        refine ⟨?_, below_then HB.out HB1.out⟩
        rw [may_bad (l := l) (k := k) (by rw [HN.out]; exact hlt)]; rfl
        intro ⟨g1, g2, g3⟩
        rw [HX.out] at g1 g2 g3
        rcases HL.out with ⟨e1, e2⟩ | ⟨e1, e2⟩
        · simp only at g3; omega
        · have := g2 e1; simp only at this; omega
      · have h1 : ¬ x0 ≤ last := by omega
        have h2 : mayN (x0, x1, x2, x3) = true := by assumption
        go_roundw
        case rel =>
          refine ⟨k + 1, x0, by go_num, by omega, rfl, .inr ⟨by omega, by rw [Nat.add_sub_cancel, HX.out]⟩, fun j hj => ?_, below_then HB.out HB1.out⟩
          by_cases e : j = k
          · subst e
            rw [HX.out]
            refine ⟨of_decide_eq_true h2, fun h0 => ?_⟩
            rcases HL.out with ⟨e1, e2⟩ | ⟨e1, e2⟩
            · omega
            · simp only; omega
          · exact HA.out j (by omega)
        case measure => simp [intOf]; omega
      · have h2 : mayN (x0, x1, x2, x3) = false := by simpa using ‹¬ mayN (x0, x1, x2, x3) = true›
        go_ret
        refine ⟨?_, below_then HB.out HB1.out⟩
        rw [may_bad (l := l) (k := k) (by rw [HN.out]; exact hlt)]; rfl
        intro ⟨g1, g2, g3⟩
        rw [HX.out] at g1
        exact absurd g1 (of_decide_eq_false h2)
    · obtain rfl : k = n := by omega
      go_wp2_with fail
      go_ret
      exact ⟨by rw [may_good (l := l) (by rw [HN.out]; exact HA.out)]; rfl, HB.out⟩

end Go.Proofs.Ytflndnbjdhbppaa

/- slices.Index, Contains, Clone at []int, sutureref16.Has: their contracts. -/
import Derived.Test.YtflndnbjdhbppaaClr
import Derived.Test.YtflndnbjdhbppaaKinds
import Derived.Test.YtflndnbjdhbppaaCmp1
import Derived.Lib.SliceRun
namespace Go.Proofs.Ytflndnbjdhbppaa
open Go Go.RowKit

theorem info_in : (Try.prog.info? 3).map (fun i => (i.zero, i.size, i.bytes)) = some (some (.int .i64 0), 1, 8) := by kernel_rfl

def FreshI (xs : List Int) (w : World) (en : Ending) (w' : World) : Prop := ∃ v', en = .returned v' ∧ Own w' w.heap.size 3 1 v' xs.length (xs.flatMap inC) ∧ Below w.heap.size w w'

theorem clone_in (v : Value) (l : List Int) (w : World) (hl : l.length ≤ 1000) (hR : Rd w 1 v l.length (l.flatMap inC)) :
    Calls Try.prog 56 #[v] w (FreshI l w) := by
  obtain ⟨ii, hii, hz0, hz1, hz2⟩ := info_parts info_in
  obtain ⟨A, cap, hv, hcap, hnc⟩ := hR.shape
  subst hv
  have HR := Lib.hid hR
  clear hR
  have hq := fun w a n c => Lib.run_eql_slice_nil (P := Try.prog) w 37 3 a n c 0 0 Try.underlying37
  cases A with
  | none =>
    have h0 : l.length = 0 := by
      rcases Nat.eq_zero_or_pos l.length with h | h
      · exact h
      · obtain ⟨b, off, hA, _⟩ := HR.out.addr h
        cases hA
    have hl0 : l = [] := List.eq_nil_of_length_eq_zero h0
    subst hl0
    go_enter Try.func56, Try.ntmps56
    go_wp2
    go_ret
    exact ⟨_, rfl, Own.nil_ _ _ _ _, Below.refl _ _⟩
  | some a =>
    go_enter Try.func56, Try.ntmps56
    go_wp2_with (at_builtin; refine wpList_append_seg rfl _ _ 37 rfl w.heap.size 3 ii _ 1 8 (by kernel_rfl) hii hz0 hz1 hz2 rfl (by omega) (.slice (some ⟨w.heap.size, 0, none⟩) 0 0) 0 [] rfl ⟨by simp, .inl ⟨_, rfl, rfl⟩⟩ (.slice (some a) l.length cap) l.length (l.flatMap inC) rfl (HR.out.alloc _) (inC_one l) (by unfold maxLen; omega) (by omega) (by simp) ?_; intro v1 w1 hown1 hfr1 hb1 _)
    go_ret
    refine ⟨_, rfl, ?_, ?_⟩
    · simpa using hown1
    · exact (below_one w _).trans (hfr1.below (by simp) (fun i hi => by simp [blk] at hi))

def hasB (l : List Int) (z : Int) : Bool := l.contains z
theorem hasB_iff {l : List Int} {z : Int} : hasB l z = true ↔ z ∈ l := List.contains_iff_mem
theorem contains_at {l : List Int} {z : Int} {k : Nat} (hk : k < l.length) (h : at_ l k = z) : hasB l z = true := by
  rw [hasB_iff, ← h]
  exact at_mem hk
theorem contains_none {l : List Int} {z : Int} (h : ∀ j, j < l.length → at_ l j ≠ z) : hasB l z = false := by
  cases e : hasB l z with
  | false => rfl
  | true =>
    obtain ⟨j, hj, he⟩ := mem_at (hasB_iff.1 e)
    exact absurd he (h j hj)

theorem index_in (v : Value) (l : List Int) (z : Int) (w : World) (hR : Rd w 1 v l.length (l.flatMap inC)) :
    Calls Try.prog 75 #[v, .int .i64 z] w fun e w' => ∃ i : Int, e = .returned (.int .i64 i) ∧ (decide (0 ≤ i) = hasB l z) ∧ w = w' := by
  obtain ⟨A, cap, hv, hcap, hnc⟩ := hR.shape
  obtain ⟨n, hn⟩ : ∃ n, l.length = n := ⟨_, rfl⟩
  have HR := Lib.hid hR
  have HN := Lib.hid hn
  rw [hn] at hv hnc
  subst hv
  clear hR hn
  go_enter Try.func75, Try.ntmps75
  go_wp2_with fail
  go_loop [8] (fun i => ∃ k : Nat, k ≤ n ∧ i = .int .i64 k ∧ ∀ j, j < k → at_ l j ≠ z) (fun i => n - (intOf i).toNat)
  case atStart => exact ⟨0, Nat.zero_le _, rfl, fun j hj => absurd hj (by omega)⟩
  case round =>
    obtain ⟨k, hk, rfl, hall⟩ := hrel
    have HA := Lib.hid hall
    clear hall
    by_cases hlt : k < n
    · have hltI : (k : Int) < (n : Int) := by omega
      have hR1 := HR.out
      rw [HN.out] at hR1
      obtain ⟨b, off, hA, hbl⟩ := hR1.addr (by omega)
      subst hA
      have c0 := rd_int hR1 k (by rw [HN.out]; exact hlt)
      obtain ⟨x, hx⟩ : ∃ x, at_ l k = x := ⟨_, rfl⟩
      rw [hx] at c0
      have HX := Lib.hid hx
      clear hx hR1
      by_cases he : z = x
      · subst he
        go_wp2
        go_ret
        exact ⟨k, rfl, by rw [contains_at (by rw [HN.out]; exact hlt) HX.out]; exact decide_eq_true (by omega), rfl⟩
      · have he' : (z == x) = false := by simpa using he
        go_wp2
        go_round
        case rel => exact ⟨k + 1, by omega, by go_num, fun j hj => by
          by_cases e : j = k
          · subst e; rw [HX.out]; exact fun h => he h.symm
          · exact HA.out j (by omega)⟩
        case measure => simp [intOf]; omega
    · obtain rfl : k = n := by omega
      go_wp2
      go_ret
      exact ⟨-1, rfl, by rw [contains_none (by rw [HN.out]; exact HA.out)]; rfl, rfl⟩

theorem has_in (v : Value) (l : List Int) (z : Int) (w : World) (hR : Rd w 1 v l.length (l.flatMap inC)) :
    Calls Try.prog 64 #[v, .int .i64 z] w fun e w' => e = .returned (.bool (hasB l z)) ∧ w = w' := by
  have HR := Lib.hid hR
  clear hR
  go_enter Try.func64, Try.ntmps64
  go_wp2_with (go_at_call 75; refine (index_in v l z _ HR.out).mono ?_; rintro e w1 ⟨i, rfl, hi, rfl⟩; have HI := Lib.hid hi; clear hi)
  go_ret
  exact ⟨by rw [← HI.out]; rfl, rfl⟩

theorem rhas_in (v : Value) (l : List Int) (z : Int) (w : World) (hR : Rd w 1 v l.length (l.flatMap inC)) :
    Calls Try.prog 21 #[v, .int .i64 z] w fun e w' => e = .returned (.bool (hasB l z)) ∧ w = w' := by
  obtain ⟨A, cap, hv, hcap, hnc⟩ := hR.shape
  obtain ⟨n, hn⟩ : ∃ n, l.length = n := ⟨_, rfl⟩
  have HR := Lib.hid hR
  have HN := Lib.hid hn
  rw [hn] at hv hnc
  subst hv
  clear hR hn
  go_enter Try.func21, Try.ntmps21
  go_wp2_with fail
  go_loop [5] (fun i => ∃ k : Nat, k ≤ n ∧ i = .int .i64 k ∧ ∀ j, j < k → at_ l j ≠ z) (fun i => n - (intOf i).toNat)
  case atStart => exact ⟨0, Nat.zero_le _, rfl, fun j hj => absurd hj (by omega)⟩
  case round =>
    obtain ⟨k, hk, rfl, hall⟩ := hrel
    have HA := Lib.hid hall
    clear hall
    by_cases hlt : k < n
    · have hltI : (k : Int) < (n : Int) := by omega
      have hR1 := HR.out
      rw [HN.out] at hR1
      obtain ⟨b, off, hA, hbl⟩ := hR1.addr (by omega)
      subst hA
      have c0 := rd_int hR1 k (by rw [HN.out]; exact hlt)
      obtain ⟨x, hx⟩ : ∃ x, at_ l k = x := ⟨_, rfl⟩
      rw [hx] at c0
      have HX := Lib.hid hx
      clear hx hR1
      by_cases he : x = z
      · subst he
        go_wp2
        go_ret
        exact ⟨by rw [contains_at (by rw [HN.out]; exact hlt) HX.out]; rfl, rfl⟩
      · have he' : (x == z) = false := by simpa using he
        go_wp2
        go_round
        case rel => exact ⟨k + 1, by omega, by go_num, fun j hj => by
          by_cases e : j = k
          · subst e; rw [HX.out]; exact he
          · exact HA.out j (by omega)⟩
        case measure => simp [intOf]; omega
    · obtain rfl : k = n := by omega
      go_wp2
      go_ret
      exact ⟨by rw [contains_none (by rw [HN.out]; exact HA.out)]; rfl, rfl⟩

end Go.Proofs.Ytflndnbjdhbppaa

/- slices.BinarySearchFunc at api.Session, by a key: its contract, whatever the list; where the list rises it tells the key's place. -/
import Derived.Test.YtjjpoialoabfoaaInsertSe
namespace Go.Proofs.Ytjjpoialoabfoaa
open Go Go.RowKit

theorem clos_se (x : Se) (id : Int) (w : World) :
    Calls Try.prog 23 #[.agg #[.int .i64 x.1, .int .i64 x.2.1, .int .i64 x.2.2], .int .i64 id] w fun e w' => e = .returned (.int .i64 (cmpI (key_se x) id)) ∧ Below w.heap.size w w' := by
  unfold key_se
  go_enter Try.func23, Try.ntmps23
  go_wp2_with (go_at_call 24; refine (cmp_any _ _ _).mono ?_; rintro e w1 ⟨rfl, rfl⟩)
  go_ret
  exact ⟨rfl, (Below.refl _ _).alloc (Nat.le_refl _) _⟩

def SearchE_se (l : List Se) (id : Int) (w : World) (e : Ending) (w' : World) : Prop := ∃ (i : Nat) (b : Bool), i ≤ l.length ∧ e = .returned (.tuple #[.int .i64 i, .bool b]) ∧ Below w.heap.size w w' ∧ (Ris key_se l → Cut key_se l id i ∧ b = isAt key_se l id i)

set_option maxHeartbeats 1000000 in
theorem search_se (A : Option Addr) (cap : Nat) (l : List Se) (id : Int) (w : World) (hl : l.length ≤ 1000) (hR : Rd w 3 (.slice A l.length cap) l.length (l.flatMap seC)) :
    Calls Try.prog 22 #[.slice A l.length cap, .int .i64 id, .func (.func 23) #[] #[]] w (SearchE_se l id w) := by
  obtain ⟨n, hn⟩ : ∃ n, l.length = n := ⟨_, rfl⟩
  have HR := Lib.hid hR
  have HN := Lib.hid hn
  rw [hn] at hl ⊢
  clear hR hn
  go_enter Try.func22, Try.ntmps22
  go_wp2_with fail
  go_loopw [9, 10] (fun s9 s10 wr => ∃ (i j : Nat), s9 = .int .i64 i ∧ s10 = .int .i64 j ∧ i ≤ j ∧ j ≤ n ∧ (Ris key_se l → (∀ k, k < i → key_se (at_ l k) < id) ∧ (∀ k, j ≤ k → k < n → id ≤ key_se (at_ l k))) ∧ Below w.heap.size w wr) (fun s9 s10 _ => (intOf s10).toNat - (intOf s9).toNat)
  case atStart => exact ⟨0, n, rfl, rfl, by omega, by omega, fun _ => ⟨fun j hj => absurd hj (by omega), fun k h1 h2 => absurd h1 (by omega)⟩, Below.refl _ _⟩
  case round =>
    obtain ⟨i, j, rfl, rfl, hij, hjn, hinv, hbel⟩ := hrel
    have HV := Lib.hid hinv
    have HB := Lib.hid hbel
    clear hinv hbel
    by_cases hlt : i < j
    · have hltI : (i : Int) < (j : Int) := by omega
      have hR1 := HR.out.below HB.out (Nat.le_refl _)
      rw [HN.out] at hR1
      obtain ⟨b, off, hA, hbl⟩ := hR1.addr (by omega)
      subst hA
      obtain ⟨c0, c1, c2⟩ := rd_se hR1 ((i + j) / 2) (by rw [HN.out]; omega)
      obtain ⟨x, hx⟩ : ∃ x, at_ l ((i + j) / 2) = x := ⟨_, rfl⟩
      rw [hx] at c0 c1 c2
      have HX := Lib.hid hx
      clear hx hR1
      have hlt2 := cmpI_lt (key_se x) id
      have HLT := Lib.hid hlt2
      clear hlt2
      go_wp2_with (go_at_call 23; refine (clos_se x id _).mono ?_; rintro e w1 ⟨rfl, hb1⟩; have HB1 := Lib.hid hb1; clear hb1)
      · have h1 : cmpI (key_se x) id < 0 := by assumption
        go_roundw
        case rel =>
          refine ⟨(i + j) / 2 + 1, j, by go_num, rfl, by omega, by omega, fun hris => ⟨fun k hk => ?_, (HV.out hris).2⟩, below_then HB.out HB1.out⟩
          have hxi := HLT.out.1 h1
          rcases Nat.lt_or_ge k ((i + j) / 2) with e | e
          · have := hris.lt e (by rw [HN.out]; omega)
            rw [HX.out] at this
            omega
          · obtain rfl : k = (i + j) / 2 := by omega
            rw [HX.out]
            exact hxi
        case measure => simp [intOf]; omega
      · have h1 : ¬ cmpI (key_se x) id < 0 := by omega
        go_roundw
        case rel =>
          refine ⟨i, (i + j) / 2, rfl, by go_num, by omega, by omega, fun hris => ⟨(HV.out hris).1, fun k hk hkn => ?_⟩, below_then HB.out HB1.out⟩
          have hxi : ¬ key_se x < id := fun h => h1 (HLT.out.2 h)
          rcases Nat.lt_or_ge ((i + j) / 2) k with e | e
          · have := hris.lt e (by rw [HN.out]; omega)
            rw [HX.out] at this
            omega
          · obtain rfl : k = (i + j) / 2 := by omega
            rw [HX.out]
            omega
        case measure => simp [intOf]; omega
    · obtain rfl : i = j := by omega
      by_cases hi : i < n
      · have hiI : (i : Int) < (n : Int) := by omega
        have hR1 := HR.out.below HB.out (Nat.le_refl _)
        rw [HN.out] at hR1
        obtain ⟨b, off, hA, hbl⟩ := hR1.addr (by omega)
        subst hA
        obtain ⟨c0, c1, c2⟩ := rd_se hR1 i (by rw [HN.out]; omega)
        obtain ⟨x, hx⟩ : ∃ x, at_ l i = x := ⟨_, rfl⟩
        rw [hx] at c0 c1 c2
        have HX := Lib.hid hx
        clear hx hR1
        go_wp2_with (go_at_call 23; refine (clos_se x id _).mono ?_; rintro e w1 ⟨rfl, hb1⟩; have HB1 := Lib.hid hb1; clear hb1)
        go_ret2
        refine ⟨i, _, by rw [HN.out]; omega, rfl, below_then HB.out HB1.out, fun hris => ⟨⟨by rw [HN.out]; omega, (HV.out hris).1, fun k h1 h2 => (HV.out hris).2 k h1 (by rw [← HN.out]; exact h2)⟩, ?_⟩⟩
        unfold isAt
        rw [HN.out, HX.out, Bool.eq_iff_iff]
        simp [hi, cmpI_eq]
      · obtain rfl : i = n := by omega
        go_wp2_with fail
        go_ret2
        refine ⟨i, _, by rw [HN.out]; omega, rfl, HB.out, fun hris => ⟨⟨by rw [HN.out]; omega, (HV.out hris).1, fun k h1 h2 => (HV.out hris).2 k h1 (by rw [← HN.out]; exact h2)⟩, ?_⟩⟩
        exact (decide_eq_false (fun h => by have := h.1; rw [HN.out] at this; omega)).symm

end Go.Proofs.Ytjjpoialoabfoaa

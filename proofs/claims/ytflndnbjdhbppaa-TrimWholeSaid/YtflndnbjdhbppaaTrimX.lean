/- slices.MaxFunc, trim.Excess: their contracts. -/
import Derived.Test.YtflndnbjdhbppaaTrimE
namespace Go.Proofs.Ytflndnbjdhbppaa
open Go Go.RowKit Go.Maps Go.WideMaps Go.Sort

theorem cmE_pos (sa sb : Bool) (la lb a b : Int) : decide (0 < cmE sa sb la lb a b) = ((sa && !sb) || (sa == sb && (decide (lb < la) || (la == lb && decide (b < a))))) := by
  rw [Bool.eq_iff_iff]
  cases sa <;> cases sb <;> simp [cmE, orI, cmpI]
  all_goals (repeat' split) <;> simp <;> omega

def MaxE (g : List Int) (f : Int → Int → Int) (w : World) (e : Ending) (w' : World) : Prop := e = .returned (.int .i64 (maxF (fun x y => decide (0 < f x y)) g)) ∧ Below w.heap.size w w'

set_option maxHeartbeats 1000000 in
theorem maxF_any (v : Value) (g : List Int) (c1 c2 : Value) (f : Int → Int → Int) (w : World) (hg : 0 < g.length) (hR : Rd w 1 v g.length (g.flatMap inC)) (hC : Cm2 w c1 c2 f) :
    Calls Try.prog 47 #[v, .func (.func 48) #[] #[c1, c2]] w (MaxE g f w) := by
  obtain ⟨A, cap, hv, hcap, hnc⟩ := hR.shape
  obtain ⟨n, hn⟩ : ∃ n, g.length = n := ⟨_, rfl⟩
  have HR := Lib.hid hR
  have HN := Lib.hid hn
  have HP := Lib.hid hC
  have M1 := maxF_one (fun x y => decide (0 < f x y)) g hg
  have HM1 := Lib.hid M1
  obtain ⟨b0, off0, hA0, hbl0⟩ : ∃ b off, A = some ⟨b, off, none⟩ ∧ b < w.heap.size := by subst hv; exact hR.addr hg
  subst hA0
  have d0 : w.cell? ⟨b0, off0, none⟩ = some (.int .i64 (at_ g 0)) := by subst hv; have := rd_int hR 0 hg; simpa using this
  obtain ⟨x0, hx0⟩ : ∃ x, at_ g 0 = x := ⟨_, rfl⟩
  rw [hx0] at d0
  have HX0 := Lib.hid hx0
  rw [hn] at hv hnc hg
  subst hv
  have hgI : ¬ (n : Int) < 1 := by omega
  clear hR hn hC M1 hx0
  go_enter Try.func47, Try.ntmps47
  go_wp2_with fail
  go_loopw [5, 6] (fun s5 s6 wr => ∃ k : Nat, 0 < k ∧ k ≤ n ∧ s6 = .int .i64 k ∧ s5 = .int .i64 (maxF (fun x y => decide (0 < f x y)) (g.take k)) ∧ Below w.heap.size w wr) (fun _ s6 _ => n - (intOf s6).toNat)
  case atStart => exact ⟨1, by omega, by omega, rfl, by rw [HM1.out, HX0.out], Below.refl _ _⟩
  case round =>
    obtain ⟨k, hk0, hk, rfl, hs5, hbel⟩ := hrel
    obtain ⟨m, hm⟩ : ∃ m, maxF (fun x y => decide (0 < f x y)) (g.take k) = m := ⟨_, rfl⟩
    rw [hm] at hs5
    subst hs5
    have HM := Lib.hid hm
    have HB := Lib.hid hbel
    clear hbel hm
    by_cases hlt : k < n
    · have hltI : (k : Int) < (n : Int) := by omega
      have hR1 := HR.out.below HB.out (Nat.le_refl _)
      rw [HN.out] at hR1
      have c0 := rd_int hR1 k (by rw [HN.out]; exact hlt)
      have HST := Lib.hid (maxF_step (fun x y => decide (0 < f x y)) g k hk0 (by rw [HN.out]; exact hlt))
      obtain ⟨x, hx⟩ : ∃ x, at_ g k = x := ⟨_, rfl⟩
      rw [hx] at c0 HST
      rw [HM.out] at HST
      clear hx hR1 d0
      go_wp2_with fail
      refine (HP.out x m wr HB.out).mono ?_
      rintro e w1 ⟨rfl, hb1⟩
      have HB1 := Lib.hid (below_then HB.out hb1)
      have c1 := (hb1.cell (p := ⟨b0, off0 + k, none⟩) (by show b0 < wr.heap.size; have := HB.out.size; omega)).trans c0
      obtain ⟨z, hz⟩ : ∃ z, f x m = z := ⟨_, rfl⟩
      rw [hz] at HST ⊢
      clear hb1 hz c0
      by_cases hp : 0 < z
      · have HS2 : Hid (maxF (fun x y => decide (0 < f x y)) (g.take (k + 1)) = x) := by have := HST.out; simp only [hp, decide_true, if_true] at this; exact this
        clear HST
        go_wp2_with fail
        go_roundw
        case rel => exact ⟨k + 1, by omega, by omega, by go_num, by rw [HS2.out], HB1.out⟩
        case measure => simp [intOf]; omega
      · have hp2 : ¬ z > 0 := hp
        have HS2 : Hid (maxF (fun x y => decide (0 < f x y)) (g.take (k + 1)) = m) := by have := HST.out; simp only [hp, decide_false, Bool.false_eq_true, if_false] at this; exact this
        clear HST
        go_wp2_with fail
        go_roundw
        case rel => exact ⟨k + 1, by omega, by omega, by go_num, by rw [HS2.out], HB1.out⟩
        case measure => simp [intOf]; omega
    · obtain rfl : k = n := by omega
      go_wp2_with fail
      go_ret
      refine ⟨?_, HB.out⟩
      rw [← HN.out, List.take_length] at HM
      rw [HM.out]
      rfl

end Go.Proofs.Ytflndnbjdhbppaa

/- place.Load and sutureref16.Load: their contracts. -/
import Derived.Test.YtflndnbjdhbppaaIntsF
namespace Go.Proofs.Ytflndnbjdhbppaa
open Go Go.RowKit

def loadL (l : List Ld) (z : Int) : Int := ((l.find? (fun x => x.1 == z)).map (·.2)).getD 0
theorem load_hit {l : List Ld} {z : Int} {k : Nat} (h : ∀ j, j < k → (at_ l j).1 ≠ z) (hk : k < l.length) (he : (at_ l k).1 = z) : loadL l z = (at_ l k).2 := by
  have : l.find? (fun x => x.1 == z) = some (at_ l k) := by
    rw [List.find?_eq_some_iff_getElem]
    refine ⟨by simpa using he, k, hk, (at_eq hk).symm, fun j hj => ?_⟩
    have := h j hj
    rw [at_eq (show j < l.length by omega)] at this
    simpa using this
  unfold loadL
  rw [this]
  rfl
theorem load_miss {l : List Ld} {z : Int} (h : ∀ j, j < l.length → (at_ l j).1 ≠ z) : loadL l z = 0 := by
  have : l.find? (fun x => x.1 == z) = none := by
    rw [List.find?_eq_none]
    intro x hx
    obtain ⟨j, hj, rfl⟩ := mem_at hx
    simpa using h j hj
  unfold loadL
  rw [this]
  rfl

theorem load1_any (x : Ld) (z : Int) (bx : Nat) (W : World) (hbx : Bx W bx 3 [.int .i64 z]) :
    Calls Try.prog 68 #[.agg #[.int .i64 x.1, .int .i64 x.2], .pointer (some ⟨bx, 0, none⟩)] W fun e w' => e = .returned (.bool (x.1 == z)) ∧ Below W.heap.size W w' := by
  have hb0 := (hbx.alloc (.cells #[.int .i64 x.1, .int .i64 x.2] 87)).cell 0
  simp only [List.getElem?_cons_zero] at hb0
  have hlt := hbx.lt
  clear hbx
  go_enter Try.func68, Try.ntmps68
  go_wp2
  go_ret
  exact ⟨rfl, below_one _ _⟩

set_option maxHeartbeats 1000000 in
theorem indexF_ld (v : Value) (l : List Ld) (z : Int) (bx : Nat) (w : World) (hbx : Bx w bx 3 [.int .i64 z]) (hR : Rd w 2 v l.length (l.flatMap ldC)) :
    Calls Try.prog 67 #[v, .func (.func 68) #[] #[.pointer (some ⟨bx, 0, none⟩)]] w fun e w' =>
      ((∃ k : Nat, k < l.length ∧ (at_ l k).1 = z ∧ (∀ j, j < k → (at_ l j).1 ≠ z) ∧ e = .returned (.int .i64 k)) ∨ ((∀ j, j < l.length → (at_ l j).1 ≠ z) ∧ e = .returned (.int .i64 (-1)))) ∧ Below w.heap.size w w' := by
  obtain ⟨A, cap, hv, hcap, hnc⟩ := hR.shape
  obtain ⟨n, hn⟩ : ∃ n, l.length = n := ⟨_, rfl⟩
  have HR := Lib.hid hR
  have HN := Lib.hid hn
  have HX := Lib.hid hbx
  rw [hn] at hv hnc
  subst hv
  clear hR hn hbx
  go_enter Try.func67, Try.ntmps67
  go_wp2_with fail
  go_loopw [8] (fun i wr => ∃ k : Nat, k ≤ n ∧ i = .int .i64 k ∧ (∀ j, j < k → (at_ l j).1 ≠ z) ∧ Below w.heap.size w wr) (fun i _ => n - (intOf i).toNat)
  case atStart => exact ⟨0, Nat.zero_le _, rfl, fun j hj => absurd hj (by omega), Below.refl _ _⟩
  case round =>
    obtain ⟨k, hk, rfl, hall, hbel⟩ := hrel
    have HA := Lib.hid hall
    have HB := Lib.hid hbel
    clear hall hbel
    by_cases hlt : k < n
    · have hltI : (k : Int) < (n : Int) := by omega
      have hR1 := HR.out.below HB.out (Nat.le_refl _)
      rw [HN.out] at hR1
      obtain ⟨b, off, hA, hbl⟩ := hR1.addr (by omega)
      subst hA
      obtain ⟨c0, c1⟩ := rd_ld hR1 k (by rw [HN.out]; exact hlt)
      obtain ⟨x, hx⟩ : ∃ x, at_ l k = x := ⟨_, rfl⟩
      rw [hx] at c0 c1
      have HXX := Lib.hid hx
      clear hx hR1
      go_wp2_with fail
      refine (load1_any x z bx wr (HX.out.below' HB.out)).mono ?_
      rintro e w1 ⟨rfl, hb1⟩
      have HB1 := Lib.hid (below_then HB.out hb1)
      clear hb1
      by_cases he : x.1 = z
      · have he' : (x.1 == z) = true := by simpa using he
        rw [he']
        have HE := Lib.hid he
        clear he he'
        go_wp2_with fail
        go_ret
        exact ⟨.inl ⟨k, by rw [HN.out]; exact hlt, by rw [HXX.out]; exact HE.out, HA.out, rfl⟩, HB1.out⟩
      · have he' : (x.1 == z) = false := by simpa using he
        rw [he']
        have HE := Lib.hid he
        clear he he'
        go_wp2_with fail
        go_roundw
        case rel => exact ⟨k + 1, by omega, by go_num, fun j hj => by
          by_cases e : j = k
          · subst e; rw [HXX.out]; exact HE.out
          · exact HA.out j (by omega), HB1.out⟩
        case measure => simp [intOf]; omega
    · obtain rfl : k = n := by omega
      go_wp2_with fail
      go_ret
      exact ⟨.inr ⟨by rw [HN.out]; exact HA.out, rfl⟩, HB.out⟩

theorem load_any (v : Value) (l : List Ld) (z : Int) (w : World) (hR : Rd w 2 v l.length (l.flatMap ldC)) :
    Calls Try.prog 51 #[v, .int .i64 z] w fun e w' => e = .returned (.int .i64 (loadL l z)) ∧ Below w.heap.size w w' := by
  have hmf : ∀ (fn : Fn) (first cap : Array Value) (w : World), (Instr.makeFunc fn first cap).run Try.prog w = .ok (.func fn first cap) w := fun _ _ _ _ => rfl
  obtain ⟨A, cap, hv, hcap, hnc⟩ := hR.shape
  obtain ⟨n, hn⟩ : ∃ n, l.length = n := ⟨_, rfl⟩
  have HR := Lib.hid hR
  have HN := Lib.hid hn
  rw [hn] at hv hnc
  subst hv
  clear hR hn
  go_enter Try.func51, Try.ntmps51
  go_wp2_with fail
  have hal := below_one w (.cells #[.int .i64 z] 3)
  refine (indexF_ld _ l z w.heap.size _ (Bx.new w 3 [.int .i64 z]) (HR.out.below hal (Nat.le_refl _))).mono ?_
  rintro e w1 ⟨hcase, hb1⟩
  have HB1 := Lib.hid (below_then hal hb1)
  clear hal hb1
  rcases hcase with ⟨k, hk, hpk, hpj, rfl⟩ | ⟨hall, rfl⟩
  · have HL := Lib.hid (load_hit hpj hk hpk)
    rw [HN.out] at hk
    clear hpk hpj
    have hkI : (k : Int) < (n : Int) := by omega
    have hR1 := HR.out.below HB1.out (Nat.le_refl _)
    rw [HN.out] at hR1
    obtain ⟨b, off, hA, hbl⟩ := hR1.addr (by omega)
    subst hA
    obtain ⟨c0, c1⟩ := rd_ld hR1 k (by rw [HN.out]; exact hk)
    obtain ⟨r, hr⟩ : ∃ r, (at_ l k).2 = r := ⟨_, rfl⟩
    rw [hr] at c1
    have HL2 := Lib.hid (HL.out.trans hr)
    clear hR1 c0 hr HL
    go_wp2_with fail
    go_ret
    exact ⟨by rw [HL2.out]; rfl, HB1.out⟩
  · have HL := Lib.hid (load_miss hall)
    clear hall
    go_wp2_with fail
    go_ret
    exact ⟨by rw [HL.out]; rfl, HB1.out⟩

theorem rload_any (v : Value) (l : List Ld) (z : Int) (w : World) (hR : Rd w 2 v l.length (l.flatMap ldC)) :
    Calls Try.prog 55 #[v, .int .i64 z] w fun e w' => e = .returned (.int .i64 (loadL l z)) ∧ w = w' := by
  obtain ⟨A, cap, hv, hcap, hnc⟩ := hR.shape
  obtain ⟨n, hn⟩ : ∃ n, l.length = n := ⟨_, rfl⟩
  have HR := Lib.hid hR
  have HN := Lib.hid hn
  rw [hn] at hv hnc
  subst hv
  clear hR hn
  go_enter Try.func55, Try.ntmps55
  go_wp2_with fail
  go_loop [5] (fun i => ∃ k : Nat, k ≤ n ∧ i = .int .i64 k ∧ ∀ j, j < k → (at_ l j).1 ≠ z) (fun i => n - (intOf i).toNat)
  case atStart => exact ⟨0, Nat.zero_le _, rfl, fun j hj => absurd hj (by omega)⟩
  case round =>
    obtain ⟨k, hk, rfl, hall⟩ := hrel
    have HA := Lib.hid hall
    clear hall
    by_cases hlt : k < n
    · have hltI : (k : Int) < (n : Int) := by omega
      have hR1 := HR.out
      rw [HN.out] at hR1
      obtain ⟨b, off, hA, hbl⟩ := hR1.addr (by omega)
      subst hA
      obtain ⟨c0, c1⟩ := rd_ld hR1 k (by rw [HN.out]; exact hlt)
      by_cases he : (at_ l k).1 = z
      · have HL := Lib.hid (load_hit HA.out (by rw [HN.out]; exact hlt) he)
        rw [he] at c0
        obtain ⟨r, hr⟩ : ∃ r, (at_ l k).2 = r := ⟨_, rfl⟩
        rw [hr] at c1
        have HL2 := Lib.hid (HL.out.trans hr)
        clear he hR1 hr HL
        go_wp2
        go_ret
        exact ⟨by rw [HL2.out]; rfl, rfl⟩
      · obtain ⟨x, hx⟩ : ∃ x, (at_ l k).1 = x := ⟨_, rfl⟩
        rw [hx] at c0 he
        have HX := Lib.hid hx
        have he' : (x == z) = false := by simpa using he
        clear hx hR1
        go_wp2
        go_round
        case rel => exact ⟨k + 1, by omega, by go_num, fun j hj => by
          by_cases e : j = k
          · subst e; rw [HX.out]; exact he
          · exact HA.out j (by omega)⟩
        case measure => simp [intOf]; omega
    · obtain rfl : k = n := by omega
      have HL := Lib.hid (load_miss (l := l) (z := z) (by rw [HN.out]; exact HA.out))
      go_wp2
      go_ret
      exact ⟨by rw [HL.out]; rfl, rfl⟩

end Go.Proofs.Ytflndnbjdhbppaa

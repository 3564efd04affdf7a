/- sutureref12.Racks: its contract. -/
import Derived.Test.YtflndnbjdhbppaaRef12F
namespace Go.Proofs.Ytflndnbjdhbppaa
open Go Go.RowKit

def cntR (rs : List Int) : Nat → Nat
  | 0 => 0
  | k + 1 => cntR rs k + if ((k : Int) + 1) ∈ rs then 1 else 0
theorem cntR_eight (rs : List Int) : cntR rs 8 = (eight.filter fun y => decide (y ∈ rs)).length := by
  rw [← List.countP_eq_length_filter]
  simp only [eight, List.countP_cons, List.countP_nil, cntR, decide_eq_true_eq]
  simp only [Int.natCast_add, Int.cast_ofNat_Int, Int.reduceAdd, Nat.zero_add, Int.natCast_zero, Int.zero_add]
  omega
theorem cntR_le (rs : List Int) (k : Nat) : cntR rs k ≤ k := by
  induction k with
  | zero => exact Nat.le_refl _
  | succ k ih => unfold cntR; split <;> omega
theorem racksN_cnt (l : List Nq) (ids : List Int) : racksN l ids = cntR (racksOf l ids) 8 := by
  rw [cntR_eight, racksN, dist_filter (ys := eight) (by decide)]
  intro r hr
  obtain ⟨id, _, h⟩ := (racksOf_mem l ids r).1 hr
  exact eight_mem (rackOf_range h)

set_option maxHeartbeats 2000000 in
set_option maxRecDepth 100000 in
theorem refRacks_any (v vi : Value) (l : List Nq) (ids : List Int) (w : World) (hi : ids.length ≤ 1000) (hR : Rd w 4 v l.length (l.flatMap noC)) (hI : Rd w 1 vi ids.length (ids.flatMap inC)) :
    Calls Try.prog 58 #[v, vi] w fun e w' => e = .returned (.int .i64 (racksN l ids)) ∧ Below w.heap.size w w' := by
  rw [racksN_cnt]
  obtain ⟨A, cap, hv, hcap, hnc⟩ := hI.shape
  subst hv
  obtain ⟨n, hn⟩ : ∃ n, ids.length = n := ⟨_, rfl⟩
  have HR := Lib.hid hR
  have HI := Lib.hid hI
  have HN := Lib.hid hn
  rw [hn] at hi hnc ⊢
  clear hR hI hn
  go_enter Try.func58, Try.ntmps58
  go_wp2_with fail
  go_loopw [5, 6] (fun s5 s6 wr => ∃ k : Nat, k ≤ 8 ∧ s6 = .int .i64 ((k : Int) + 1) ∧ s5 = .int .i64 (cntR (racksOf l ids) k) ∧ Below w.heap.size w wr) (fun _ s6 _ => 9 - (intOf s6).toNat)
  case atStart => exact ⟨0, by omega, rfl, rfl, Below.refl _ _⟩
  case round =>
    obtain ⟨k, hk, rfl, rfl, hbel⟩ := hrel
    have HB := Lib.hid hbel
    clear hbel
    have hcl := cntR_le (racksOf l ids) k
    by_cases hk8 : k < 8
    · have hk8I : (k : Int) + 1 ≤ 8 := by omega
      have hstep : cntR (racksOf l ids) (k + 1) = cntR (racksOf l ids) k + if ((k : Int) + 1) ∈ racksOf l ids then 1 else 0 := rfl
      have HS := Lib.hid hstep
      clear hstep
      generalize hc : cntR (racksOf l ids) k = c at *
      clear hc
      go_wp2_with fail
      go_loopw [5, 7] (fun s5 s7 wi => ∃ i : Nat, i ≤ n ∧ s5 = .int .i64 c ∧ s7 = .int .i64 i ∧ (∀ j, j < i → rackOf l (at_ ids j) ≠ some ((k : Int) + 1)) ∧ Below w.heap.size w wi) (fun _ s7 _ => n - (intOf s7).toNat)
      case atStart => exact ⟨0, by omega, rfl, rfl, fun j hj => absurd hj (by omega), HB.out⟩
      case round =>
        obtain ⟨i, hin, rfl, rfl, hall, hbel2⟩ := hrel
        have HA := Lib.hid hall
        have HB2 := Lib.hid hbel2
        clear hall hbel2
        by_cases hlt : i < n
        · have hltI : (i : Int) < (n : Int) := by omega
          have hI1 := HI.out.below HB2.out (Nat.le_refl _)
          rw [HN.out] at hI1
          obtain ⟨b, off, hA, hbl⟩ := hI1.addr (by omega)
          subst hA
          have c0 := rd_int hI1 i (by rw [HN.out]; exact hlt)
          obtain ⟨z, hz⟩ : ∃ z, at_ ids i = z := ⟨_, rfl⟩
          rw [hz] at c0
          have HZ := Lib.hid hz
          clear hz hI1
          go_wp2_with fail
          refine (refFind_any v l z wr (HR.out.below HB2.out (Nat.le_refl _))).mono ?_
          rintro e w1 ⟨rfl, hb1⟩
          have HB3 := Lib.hid (HB2.out.trans (hb1.mono HB2.out.size))
          have hs3 := HB3.out.size
          clear hb1
          obtain ⟨o, ho⟩ : ∃ o, findL l z = o := ⟨_, rfl⟩
          rw [ho]
          have HO : Hid (rackOf l z = o.map (·.2.1)) := by unfold rackOf; rw [ho]; exact rfl
          clear ho
          cases o with
          | none =>
            simp only [optN, noV, Option.getD_none, Option.isSome_none]
            go_wp2_with fail
            go_roundw
            case rel => exact ⟨i + 1, by omega, rfl, by go_num, fun j hj => by
              by_cases e : j = i
              · subst e; rw [HZ.out, HO.out]; simp
              · exact HA.out j (by omega), HB3.out.alloc hs3 _⟩
            case measure => simp [intOf]; omega
          | some x =>
            obtain ⟨x0, x1, x2, x3⟩ := x
            simp only [optN, noV, Option.getD_some, Option.isSome_some]
            by_cases he : x1 = (k : Int) + 1
            · subst he
              go_wp2_with fail
              go_roundw
              case rel =>
                refine ⟨k + 1, by omega, by go_num, ?_, HB3.out.alloc hs3 _⟩
                rw [HS.out, if_pos ((racksOf_mem l ids _).2 ⟨z, by rw [← HZ.out]; exact at_mem (by rw [HN.out]; exact hlt), HO.out⟩)]
                go_num
              case measure => simp [intOf]; omega
            · have he' : (x1 == (k : Int) + 1) = false := by simpa using he
              go_wp2_with fail
              go_roundw
              case rel => exact ⟨i + 1, by omega, rfl, by go_num, fun j hj => by
                by_cases e : j = i
                · subst e; rw [HZ.out, HO.out]; simpa using he
                · exact HA.out j (by omega), HB3.out.alloc hs3 _⟩
              case measure => simp [intOf]; omega
        · obtain rfl : i = n := by omega
          go_wp2_with fail
          go_roundw
          case rel =>
            refine ⟨k + 1, by omega, by go_num, ?_, HB2.out⟩
            rw [HS.out, if_neg, Nat.add_zero]
            intro hm
            obtain ⟨z, hz, h1⟩ := (racksOf_mem l ids _).1 hm
            obtain ⟨j, hj, rfl⟩ := mem_at hz
            exact HA.out j (by rw [← HN.out]; exact hj) h1
          case measure => simp [intOf]; omega
    · obtain rfl : k = 8 := by omega
      go_wp2_with fail
      go_ret
      exact ⟨rfl, HB.out⟩

end Go.Proofs.Ytflndnbjdhbppaa

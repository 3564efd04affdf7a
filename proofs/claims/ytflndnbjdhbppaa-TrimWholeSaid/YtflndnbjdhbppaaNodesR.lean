/- nodes.Racks and nodes.In: their contracts. -/
import Derived.Test.YtflndnbjdhbppaaNodesF
import Derived.Maps.OwnSet
import Derived.Maps.OwnOps
namespace Go.Proofs.Ytflndnbjdhbppaa
open Go Go.RowKit Go.Maps Go.WideMaps

theorem infoInt : (Try.prog.info? 3).map (fun i => (i.zero, i.size, i.bytes)) = some (some (.int .i64 0), 1, 8) := by kernel_rfl

def rkL (rs : List Int) : List Lit := rs.map (Lit.int .i64)
def rkD (rs : List Int) : DataW Unit := setOf (.lit (.bool true)) (rkL rs)
theorem rkD_nil : rkD [] = .map [] := by simp [rkD, rkL, setOf]
theorem rkD_snoc (rs : List Int) (r : Int) : rkD (rs ++ [r]) = (rkD rs).put (.int .i64 r) (.lit (.bool true)) := by
  unfold rkD rkL
  rw [List.map_append, List.map_singleton, setOf_snoc]
theorem any_same (acc : List Int) (x : Int) : (rkL acc).any (fun y => y.sameKey (.int .i64 x)) = acc.contains x := by
  rw [rkL, List.any_map, Bool.eq_iff_iff]
  simp [Lit.sameKey]
theorem addKey_int (xs : List Int) : ∀ acc : List Int, (rkL xs).foldl addKey (rkL acc) = rkL (xs.foldl addI acc) := by
  induction xs with
  | nil => intro acc; rfl
  | cons x xs ih =>
    intro acc
    have e : addKey (rkL acc) (Lit.int .i64 x) = rkL (addI acc x) := by
      unfold addKey addI
      rw [any_same]
      split
      · rfl
      · simp [rkL]
    show (rkL xs).foldl addKey (addKey (rkL acc) (Lit.int .i64 x)) = _
    rw [e, ih]
    rfl
theorem rkD_size (rs : List Int) : Maps.size (rkD rs) = (dist rs).length := by
  unfold rkD
  rw [size_setOf _ _ (fun x hx => by obtain ⟨y, _, rfl⟩ := List.mem_map.1 hx; trivial), show (rkL rs).foldl addKey [] = rkL (rs.foldl addI []) from addKey_int rs [], rkL, List.length_map]
  rfl
theorem lawInt : Keyed Try.prog 3 := int_keyed Try.underlying3

theorem ownsMap_below {H : Type} {P : Program} {k : TypeId} {R : Value → Option (DataW H × List MemPlace)} {b n : Nat} {D : DataW H} {w w' : World} (h : w.ownsMap P k R b n D) (hb : Below w.heap.size w w') : w'.ownsMap P k R b n D := by
  have hlt := h.lt
  obtain ⟨es, clock, hh, F, hs, hD⟩ := h
  exact ⟨es, clock, (hb.block b hlt).trans hh, F, hs, hD⟩
def oneR (o : Option Nq) : List Int := (o.map (·.2.1)).toList
theorem racksOf_snoc (l : List Nq) (ids : List Int) (z : Int) : racksOf l (ids ++ [z]) = racksOf l ids ++ oneR (findL l z) := by
  unfold racksOf oneR
  rw [List.filterMap_append]
  cases h : findL l z with
  | none => simp [rackOf, h]
  | some x => simp [rackOf, h]

set_option maxHeartbeats 1000000 in
set_option maxRecDepth 100000 in
theorem racks_any (v vi : Value) (l : List Nq) (ids : List Int) (w : World) (hl : l.length ≤ 1000) (hi : ids.length ≤ 1000) (hR : Rd w 4 v l.length (l.flatMap noC)) (hI : Rd w 1 vi ids.length (ids.flatMap inC)) :
    Calls Try.prog 34 #[v, vi] w fun e w' => e = .returned (.int .i64 (racksN l ids)) ∧ Below w.heap.size w w' := by
  obtain ⟨A, cap, hv, hcap, hnc⟩ := hI.shape
  subst hv
  obtain ⟨n, hn⟩ : ∃ n, ids.length = n := ⟨_, rfl⟩
  have HR := Lib.hid hR
  have HI := Lib.hid hI
  have HN := Lib.hid hn
  rw [hn] at hi hnc ⊢
  clear hR hI hn
  have hmm := @run_makeMap Try.prog
  go_enter Try.func34, Try.ntmps34
  go_wp2_with fail
  go_loopw [13] (fun s13 wr => ∃ k : Nat, k ≤ n ∧ s13 = .int .i64 k ∧ wr.ownsMap Try.prog 3 (plainElem (H := Unit) Try.prog 4) w.heap.size k (rkD (racksOf l (ids.take k))) ∧ Below w.heap.size w wr) (fun s13 _ => n - (intOf s13).toNat)
  case atStart => exact ⟨0, Nat.zero_le _, rfl, by rw [List.take_zero, show racksOf l [] = [] from rfl, rkD_nil]; exact World.ownsMap_made _ _ _ _, below_one _ _⟩
  case round =>
    obtain ⟨k, hk, rfl, hown, hbel⟩ := hrel
    have HO := Lib.hid hown
    have HB := Lib.hid hbel
    clear hown hbel
    by_cases hlt : k < n
    · have hltI : (k : Int) < (n : Int) := by omega
      have hI1 := HI.out.below HB.out (Nat.le_refl _)
      rw [HN.out] at hI1
      obtain ⟨b, off, hA, hbl⟩ := hI1.addr (by omega)
      subst hA
      have c0 := rd_int hI1 k (by rw [HN.out]; exact hlt)
      obtain ⟨z, hz⟩ : ∃ z, at_ ids k = z := ⟨_, rfl⟩
      rw [hz] at c0
      have HZ : Hid (ids.take (k + 1) = ids.take k ++ [z]) := by rw [take_at (by rw [HN.out]; exact hlt), hz]; exact rfl
      clear hz hI1
      go_wp2_with fail
      refine (find_any v l z wr hl (HR.out.below HB.out (Nat.le_refl _))).mono ?_
      rintro e w1 ⟨rfl, hb1⟩
      have HO1 := Lib.hid (ownsMap_below HO.out hb1)
      have HB1 := Lib.hid (HB.out.trans (hb1.mono HB.out.size))
      have hlt1 := hb1.size
      clear hb1
      obtain ⟨o, ho⟩ : ∃ o, findL l z = o := ⟨_, rfl⟩
      rw [ho]
      have hsn : racksOf l (ids.take (k + 1)) = racksOf l (ids.take k) ++ oneR o := by rw [HZ.out, racksOf_snoc, ho]
      cases o with
      | none =>
        simp only [oneR, Option.map_none, Option.toList_none, List.append_nil] at hsn
        have HS := Lib.hid hsn
        clear hsn ho
        simp only [optN, noV, Option.getD_none, Option.isSome_none]
        go_wp2_with fail
        go_roundw
        case rel => exact ⟨k + 1, by omega, by go_num, by rw [HS.out]; exact (HO1.out.alloc _).mono (by omega), HB1.out.alloc (by have := HB1.out.size; omega) _⟩
        case measure => simp [intOf]; omega
      | some x =>
        have hx := rackOf_range (l := l) (id := z) (r := x.2.1) (by simp [rackOf, ho])
        obtain ⟨x0, x1, x2, x3⟩ := x
        simp only [oneR, Option.map_some, Option.toList_some] at hsn hx
        have HS := Lib.hid hsn
        clear hsn ho
        have hkey : keyOf Try.prog 3 (.int .i64 x1) = some (.int .i64 x1) := keyOf_int_mk Try.underlying3 (WalkArith.wf_i64 (by omega))
        have HK := Lib.hid hkey
        clear hkey
        simp only [optN, noV, Option.getD_some, Option.isSome_some]
        go_wp2_with (at_mapUpdate; refine wpList_mapUpdate_own _ rfl _ _ _ 79 rfl 3 4 lawInt Try.underlying79 (plainElem (H := Unit) Try.prog 4) w.heap.size k _ rfl (HO1.out.alloc _) (by unfold maxLen; omega) _ _ _ rfl rfl HK.out _ [] (plainElem_bool Try.underlying4 true) ?_; intro w2 hown2 hgrow2)
        go_roundw
        case rel =>
          refine ⟨k + 1, by omega, by go_num, by rw [HS.out, rkD_snoc]; exact hown2, ?_⟩
          exact (HB1.out.alloc (by have := HB1.out.size; omega) _).grown hgrow2 (by have := HB1.out.size; simp; omega) (fun j hj => by cases hj; exact Nat.le_refl _)
        case measure => simp [intOf]; omega
    · obtain rfl : k = n := by omega
      go_wp2_with (at_len; refine wpList_len_own _ rfl _ 79 rfl 3 4 Try.underlying79 _ w.heap.size k _ rfl HO.out ?_)
      go_ret
      refine ⟨?_, HB.out⟩
      rw [rkD_size, ← HN.out, List.take_length]
      rfl

end Go.Proofs.Ytflndnbjdhbppaa

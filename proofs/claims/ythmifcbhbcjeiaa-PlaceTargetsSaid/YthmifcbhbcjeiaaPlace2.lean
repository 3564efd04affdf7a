/- place.racks, place.better, place.worth: their contracts. -/
import Derived.Test.YthmifcbhbcjeiaaPlace1
import Derived.Test.YthmifcbhbcjeiaaNodesR
import Derived.Test.YthmifcbhbcjeiaaBase2
import Derived.WalkLawsBesides
namespace Go.Proofs.Ythmifcbhbcjeiaa
open Go Go.RowKit Go.Maps Go.WideMaps Go.Sort

def okW (l : List Nq) : Prop := ∀ x ∈ l, (Lit.int .i64 x.2.1).wf = true

/-- The map of the racks on which some stand. -/
def OldM (w : World) (b n : Nat) (rs : List Int) : Prop := w.ownsMap Try.prog 3 (plainElem (H := Unit) Try.prog 4) b n (rkD rs)
theorem OldM.below {w w' : World} {b n : Nat} {rs : List Int} (h : OldM w b n rs) (hb : Below w.heap.size w w') : OldM w' b n rs := ownsMap_below h hb

theorem plainElem_bool_inv {v : Value} {z : DataW Unit × List MemPlace} (h : plainElem Try.prog 4 v = some z) : ∃ x, v = .bool x ∧ z = (.lit (.bool x), []) := by
  unfold plainElem at h
  rw [Try.underlying4] at h
  cases v <;> simp at h
  exact ⟨_, rfl, h.symm⟩
theorem atKey_setOf_none (k : Lit) (acc : List Lit) (h : ∀ x ∈ acc, WideAt.IsKeyLit x) (hn : acc.any (fun x => x.sameKey k) = false) (z : DataW Unit) : (setOf (.lit (.bool true)) acc).atKey k z = z :=
  atKey_of_not_has (by rw [has_setOf _ _ _ h, hn]) z
theorem rkD_at (rs : List Int) (r : Int) : (rkD rs).atKey (.int .i64 r) (.lit (.bool false)) = .lit (.bool (hasB rs r)) := by
  obtain ⟨t, rfl⟩ : ∃ t : List Int, rs = t.reverse := ⟨rs.reverse, by simp⟩
  induction t with
  | nil => rfl
  | cons x t ih =>
    rw [List.reverse_cons, rkD_snoc]
    have hm : IsMap (rkD t.reverse) := (tidy_setOf _ _ (fun x hx => by obtain ⟨y, _, rfl⟩ := List.mem_map.1 hx; trivial)).isMap
    by_cases e : r = x
    · subst e
      rw [atKey_put_same hm (show WideAt.IsKeyLit (.int .i64 r) from trivial)]
      simp [hasB]
    · rw [atKey_put_other (by intro h; exact e (by cases h; rfl)), ih]
      have e' : ¬ x = r := fun h => e h.symm
      simp [hasB, e, e']

theorem wpList_lookup_old {ops : Array Oper} {rest : List Oper} {o : Oper} {a : Act} {Q : Exit → Act → World → Prop} (w : World) (hg : o.guard = none) (m x : Operand) (hop : o.op = Op.lookup 56 m x false)
    (b n : Nat) (rs : List Int) (hm : a.eval m = .map (some b)) (hown : OldM w b n rs) (r : Int) (hx : a.eval x = .int .i64 r) (hr : (Lit.int .i64 r).wf = true) (hK : wpList Try.prog ops Q rest (a.put o.dst (.bool (hasB rs r))) w) :
    wpList Try.prog ops Q (o :: rest) a w := by
  refine wpList_plain hg fun K' hK' => ?_
  have hz : (zeroValue 4).run Try.prog w = .ok (.bool false) w := by kernel_rfl
  obtain ⟨v, ps, hrun, hv⟩ := World.ownsMap.lookup hown lawInt Try.underlying56 hz (plainElem_bool Try.underlying4 false) (keyOf_int_mk Try.underlying3 hr)
  rw [rkD_at] at hv
  obtain ⟨c, rfl, hc⟩ := plainElem_bool_inv hv
  simp only [Prod.mk.injEq, DataW.lit.injEq, Lit.bool.injEq] at hc
  rw [← hc.1] at hrun
  unfold Oper.wp
  simp [execOp, hop, hm, hx, hrun, Result.andThen]
  exact hK' _ _ hK

set_option maxHeartbeats 1000000 in
set_option maxRecDepth 100000 in
theorem racksP_any (v vi : Value) (l : List Nq) (ids : List Int) (w : World) (hl : l.length ≤ 1000) (hi : ids.length ≤ 1000) (hR : Rd w 4 v l.length (l.flatMap noC)) (hI : Rd w 1 vi ids.length (ids.flatMap inC)) :
    Calls Try.prog 48 #[v, vi] w fun e w' => ∃ n, e = .returned (.map (some w.heap.size)) ∧ OldM w' w.heap.size n (racksOf l ids) ∧ Below w.heap.size w w' := by
  obtain ⟨A, cap, hv, hcap, hnc⟩ := hI.shape
  subst hv
  obtain ⟨n, hn⟩ : ∃ n, ids.length = n := ⟨_, rfl⟩
  have HR := Lib.hid hR
  have HI := Lib.hid hI
  have HN := Lib.hid hn
  rw [hn] at hi hnc ⊢
  clear hR hI hn
  have hmm := @run_makeMap Try.prog
  go_enter Try.func48, Try.ntmps48
  go_wp2_with fail
  go_loopw [13] (fun s13 wr => ∃ k : Nat, k ≤ n ∧ s13 = .int .i64 k ∧ wr.ownsMap Try.prog 3 (plainElem (H := Unit) Try.prog 4) w.heap.size k (rkD (racksOf l (ids.take k))) ∧ Below w.heap.size w wr) (fun s13 _ => n - (intOf s13).toNat)
  case atStart => exact ⟨0, Nat.zero_le _, rfl, by rw [List.take_zero, show racksOf l [] = [] from rfl, rkD_nil]; exact World.ownsMap_made _ _ _ _, below_one _ _⟩
  case round =>
    obtain ⟨k, hk, rfl, hown, hbel⟩ := hrel
    have HO := Lib.hid hown
    have HB := Lib.hid hbel
    clear hown hbel
    by_cases hlt : k < n
    · have hltI : (k : Int) < (n : Int) := by omega
      have hI1 := HI.out.below HB.out (Nat.le_refl _)
      rw [HN.out] at hI1
      obtain ⟨b, off, hA, hbl⟩ := hI1.addr (by omega)
      subst hA
      have c0 := rd_int hI1 k (by rw [HN.out]; exact hlt)
      obtain ⟨z, hz⟩ : ∃ z, at_ ids k = z := ⟨_, rfl⟩
      rw [hz] at c0
      have HZ : Hid (ids.take (k + 1) = ids.take k ++ [z]) := by rw [take_at (by rw [HN.out]; exact hlt), hz]; exact rfl
      clear hz hI1
      go_wp2_with fail
      refine (find_any v l z wr hl (HR.out.below HB.out (Nat.le_refl _))).mono ?_
      rintro e w1 ⟨rfl, hb1⟩
      have HO1 := Lib.hid (ownsMap_below HO.out hb1)
      have HB1 := Lib.hid (HB.out.trans (hb1.mono HB.out.size))
      have hlt1 := hb1.size
      clear hb1
      obtain ⟨o, ho⟩ : ∃ o, findL l z = o := ⟨_, rfl⟩
      rw [ho]
      have hsn : racksOf l (ids.take (k + 1)) = racksOf l (ids.take k) ++ oneR o := by rw [HZ.out, racksOf_snoc, ho]
      cases o with
      | none =>
        simp only [oneR, Option.map_none, Option.toList_none, List.append_nil] at hsn
        have HS := Lib.hid hsn
        clear hsn ho
        simp only [optN, noV, Option.getD_none, Option.isSome_none]
        go_wp2_with fail
        go_roundw
        case rel => exact ⟨k + 1, by omega, by go_num, by rw [HS.out]; exact (HO1.out.alloc _).mono (by omega), HB1.out.alloc (by have := HB1.out.size; omega) _⟩
        case measure => simp [intOf]; omega
      | some x =>
        have hx := rackOf_range (l := l) (id := z) (r := x.2.1) (by simp [rackOf, ho])
        obtain ⟨x0, x1, x2, x3⟩ := x
        simp only [oneR, Option.map_some, Option.toList_some] at hsn hx
        have HS := Lib.hid hsn
        clear hsn ho
        have hkey : keyOf Try.prog 3 (.int .i64 x1) = some (.int .i64 x1) := keyOf_int_mk Try.underlying3 (WalkArith.wf_i64 (by omega))
        have HK := Lib.hid hkey
        clear hkey
        simp only [optN, noV, Option.getD_some, Option.isSome_some]
        go_wp2_with (at_mapUpdate; refine wpList_mapUpdate_own _ rfl _ _ _ 56 rfl 3 4 lawInt Try.underlying56 (plainElem (H := Unit) Try.prog 4) w.heap.size k _ rfl (HO1.out.alloc _) (by unfold maxLen; omega) _ _ _ rfl rfl HK.out _ [] (plainElem_bool Try.underlying4 true) ?_; intro w2 hown2 hgrow2)
        go_roundw
        case rel =>
          refine ⟨k + 1, by omega, by go_num, by rw [HS.out, rkD_snoc]; exact hown2, ?_⟩
          exact (HB1.out.alloc (by have := HB1.out.size; omega) _).grown hgrow2 (by have := HB1.out.size; simp; omega) (fun j hj => by cases hj; exact Nat.le_refl _)
        case measure => simp [intOf]; omega
    · obtain rfl : k = n := by omega
      go_wp2_with fail
      go_ret
      refine ⟨k, rfl, ?_, HB.out⟩
      have := HO.out
      have e : ids.take k = ids := by rw [← HN.out, List.take_length]
      rw [e] at this
      exact this

def f1 : Nat := 4607182418800017408
def fl (m : Int) : Nat := FloatKind.f64.nearest m
def betB (a b c d : Nat) : Bool := if (FloatKind.f64.format.order a c != some .eq) = true then FloatKind.f64.format.order a c == some .lt else FloatKind.f64.format.order b d == some .lt

theorem better_any (a b c d : Nat) (w : World) :
    Calls Try.prog 50 #[.complex .f64 a b, .complex .f64 c d] w fun e w' => e = .returned (.bool (betB a b c d)) ∧ w = w' := by
  have hbb : betB a b c d = if (FloatKind.f64.format.order a c != some .eq) = true then FloatKind.f64.format.order a c == some .lt else FloatKind.f64.format.order b d == some .lt := rfl
  have HBB := Lib.hid hbb
  clear hbb
  by_cases h : (FloatKind.f64.format.order a c != some .eq) = true
  · rw [if_pos h] at HBB
    go_enter Try.func50, Try.ntmps50
    go_wp2
    go_ret
    exact ⟨by rw [HBB.out]; rfl, rfl⟩
  · rw [if_neg h] at HBB
    have h' : (FloatKind.f64.format.order a c != some .eq) = false := by simpa using h
    clear h
    go_enter Try.func50, Try.ntmps50
    go_wp2
    go_ret
    exact ⟨by rw [HBB.out]; rfl, rfl⟩

def minI (a b : Int) : Int := if b < a then b else a
def wRe (b : Bool) : Nat := if b then f1 else 0

theorem fl_add : ∀ m : Fin 17, FloatKind.f64.format.add (fl (m.val : Int)) 0 = some (fl (m.val : Int)) := of_decide_eq_true (by kernel_rfl)

theorem betB_eq : ∀ (x y : Bool) (m n : Fin 17), betB (wRe x) (fl m.val) (wRe y) (fl n.val) = ((!x && y) || (x == y && decide (m.val < n.val))) := of_decide_eq_true (by kernel_rfl)

end Go.Proofs.Ythmifcbhbcjeiaa

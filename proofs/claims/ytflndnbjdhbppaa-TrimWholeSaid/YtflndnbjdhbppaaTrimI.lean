/- trim.idle and trim.rack: their contracts. -/
import Derived.Test.YtflndnbjdhbppaaTrimW
import Derived.Test.YtflndnbjdhbppaaDelFIdl
namespace Go.Proofs.Ytflndnbjdhbppaa
open Go Go.RowKit

theorem iB_none {l : List Nq} {al : List Int} {z : Int} (h : findL l z = none) : (!iB l al z) = true := by unfold iB idB; rw [h]; rfl
theorem iB_serves {l : List Nq} {al : List Int} {z : Int} {x : Nq} (h : findL l z = some x) (hx : x.2.2.2 = 0) : (!iB l al z) = true := by unfold iB idB; rw [h]; simp [hx]
theorem iB_lives {l : List Nq} {al : List Int} {z : Int} {x : Nq} (h : findL l z = some x) (hx : x.2.2.2 ≠ 0) : (!iB l al z) = !hasB al z := by unfold iB idB; rw [h]; simp [hx]

theorem idl1_any (B : Nat) (w : World) (bx by_ : Nat) (vn : Value) (l : List Nq) (va : Value) (al : List Int) (hl : l.length ≤ 1000) (hbx : Bx w bx 40 [vn]) (hby : Bx w by_ 37 [va]) (hN : Rd w 4 vn l.length (l.flatMap noC)) (hA : Rd w 1 va al.length (al.flatMap inC)) (hlt : bx < B) (hlt2 : by_ < B) (hB : w.heap.size ≤ B) :
    Pred_idl B w (.pointer (some ⟨bx, 0, none⟩)) (.pointer (some ⟨by_, 0, none⟩)) (fun z => !iB l al z) := by
  intro z W hbel
  have c0 := (hbx.below hbel hlt).cell 0
  have HY := Lib.hid (hby.below hbel hlt2)
  simp only [List.getElem?_cons_zero] at c0
  have HN := Lib.hid (hN.below hbel hB)
  have HA := Lib.hid (hA.below hbel hB)
  obtain ⟨A, cap, hv, _, _⟩ := hN.shape
  subst hv
  obtain ⟨Aa, capa, hv, _, _⟩ := hA.shape
  subst hv
  clear hbx hN hA hbel hby
  go_enter Try.func65, Try.ntmps65
  go_wp2_with fail
  refine (find_any _ l z W hl HN.out).mono ?_
  rintro e w1 ⟨rfl, hb1⟩
  have HB1 := Lib.hid hb1
  have d0 := ((HY.out.below' hb1).alloc (.cells #[.int .i64 ((findL l z).getD (0, 0, 0, 0)).1, .int .i64 ((findL l z).getD (0, 0, 0, 0)).2.1, .int .i64 ((findL l z).getD (0, 0, 0, 0)).2.2.1, .int .i64 ((findL l z).getD (0, 0, 0, 0)).2.2.2] 58)).cell 0
  simp only [List.getElem?_cons_zero] at d0
  have HA1 := Lib.hid ((HA.out.below hb1 (Nat.le_refl _)).alloc (.cells #[.int .i64 ((findL l z).getD (0, 0, 0, 0)).1, .int .i64 ((findL l z).getD (0, 0, 0, 0)).2.1, .int .i64 ((findL l z).getD (0, 0, 0, 0)).2.2.1, .int .i64 ((findL l z).getD (0, 0, 0, 0)).2.2.2] 58))
  obtain ⟨o, ho⟩ : ∃ o, findL l z = o := ⟨_, rfl⟩
  rw [ho] at d0 HA1 ⊢
  have HO := Lib.hid ho
  clear hb1 ho c0
  cases o with
  | none =>
    simp only [Option.getD_none] at d0 HA1
    simp only [optN, noV, Option.getD_none, Option.isSome_none]
    go_wp2_with fail
    go_ret
    exact ⟨by rw [iB_none HO.out]; rfl, below_then HB1.out (below_one _ _)⟩
  | some x =>
    obtain ⟨x0, x1, x2, x3⟩ := x
    simp only [Option.getD_some] at d0 HA1
    simp only [optN, noV, Option.getD_some, Option.isSome_some]
    by_cases hx : x3 = 0
    · subst hx
      go_wp2_with fail
      go_ret
      exact ⟨by rw [iB_serves HO.out rfl]; rfl, below_then HB1.out (below_one _ _)⟩
    · have hx2 : (x3 == 0) = false := by simpa using hx
      have HX := Lib.hid hx
      clear hx
      go_wp2_with fail
      refine (has_in _ al z _ HA1.out).mono ?_
      rintro e w' ⟨rfl, rfl⟩
      go_wp2_with fail
      go_ret
      exact ⟨by rw [iB_lives HO.out HX.out]; rfl, below_then HB1.out (below_one _ _)⟩

set_option maxHeartbeats 1000000 in
theorem idle_any (c0 c1 c2 : Int) (vh : Value) (h : List Int) (vn : Value) (l : List Nq) (va : Value) (al : List Int) (w : World) (hl : h.length ≤ 1000) (hll : l.length ≤ 1000) (hH : Rd w 1 vh h.length (h.flatMap inC)) (hN : Rd w 4 vn l.length (l.flatMap noC)) (hA : Rd w 1 va al.length (al.flatMap inC)) :
    Calls Try.prog 44 #[.agg #[.int .i64 c0, .int .i64 c1, .int .u32 c2, vh], vn, va] w (FreshI (idlL h l al) w) := by
  have hmf : ∀ (fn : Fn) (first cap : Array Value) (w : World), (Instr.makeFunc fn first cap).run Try.prog w = .ok (.func fn first cap) w := fun _ _ _ _ => rfl
  obtain ⟨A, cap, hv, _, _⟩ := hH.shape
  subst hv
  obtain ⟨An, capn, hvn, _, _⟩ := hN.shape
  subst hvn
  obtain ⟨Aa, capa, hva, _, _⟩ := hA.shape
  subst hva
  have HH := Lib.hid hH
  have HN := Lib.hid hN
  have HA := Lib.hid hA
  clear hH hA hN
  go_enter Try.func44, Try.ntmps44
  go_wp2_with fail
  have hal := below3 w (.cells #[.int .i64 c0, .int .i64 c1, .int .u32 c2, .slice A h.length cap] 39) (.cells #[.slice An l.length capn] 40) (.cells #[.slice Aa al.length capa] 37)
  have hbx : Bx (((w.alloc (.cells #[.int .i64 c0, .int .i64 c1, .int .u32 c2, .slice A h.length cap] 39)).alloc (.cells #[.slice An l.length capn] 40)).alloc (.cells #[.slice Aa al.length capa] 37)) (w.heap.size + 1) 40 [.slice An l.length capn] := by
    have := (Bx.new (w.alloc (.cells #[.int .i64 c0, .int .i64 c1, .int .u32 c2, .slice A h.length cap] 39)) 40 [.slice An l.length capn]).alloc (.cells #[.slice Aa al.length capa] 37)
    rw [World.size_alloc] at this
    exact this
  have hby : Bx (((w.alloc (.cells #[.int .i64 c0, .int .i64 c1, .int .u32 c2, .slice A h.length cap] 39)).alloc (.cells #[.slice An l.length capn] 40)).alloc (.cells #[.slice Aa al.length capa] 37)) (w.heap.size + 1 + 1) 37 [.slice Aa al.length capa] := by
    have := Bx.new ((w.alloc (.cells #[.int .i64 c0, .int .i64 c1, .int .u32 c2, .slice A h.length cap] 39)).alloc (.cells #[.slice An l.length capn] 40)) 37 [.slice Aa al.length capa]
    rw [World.size_alloc, World.size_alloc] at this
    exact this
  generalize (((w.alloc (.cells #[.int .i64 c0, .int .i64 c1, .int .u32 c2, .slice A h.length cap] 39)).alloc (.cells #[.slice An l.length capn] 40)).alloc (.cells #[.slice Aa al.length capa] 37)) = w1 at *
  refine (clone_in _ h w1 hl (HH.out.below hal (Nat.le_refl _))).mono ?_
  rintro e w2 ⟨v2, rfl, ho2, hb2⟩
  have HB2 := Lib.hid (below_then hal hb2)
  have HO2 := Lib.hid ho2
  have hs1 := hal.size
  have hs2 := hb2.size
  have HXL := Lib.hid hbx.lt
  have HYL := Lib.hid hby.lt
  have HN1 := Lib.hid (HN.out.below hal (Nat.le_refl _))
  have HA1 := Lib.hid (HA.out.below hal (Nat.le_refl _))
  have HBB := Lib.hid hb2
  have HX1 := Lib.hid hbx
  have HY1 := Lib.hid hby
  clear ho2 hb2 hbx hby hal
  go_wp2_with fail
  refine (deleteF_idl w1.heap.size v2 h (.pointer (some ⟨w.heap.size + 1, 0, none⟩)) (.pointer (some ⟨w.heap.size + 1 + 1, 0, none⟩)) (fun z => !iB l al z) w2 hl hs2 HO2.out ?_).mono ?_
  · intro z W hb
    exact idl1_any w1.heap.size w1 (w.heap.size + 1) (w.heap.size + 1 + 1) _ l _ al hll HX1.out HY1.out HN1.out HA1.out HXL.out HYL.out (Nat.le_refl _) z W (HBB.out.trans hb)
  rintro e w3 ⟨v3, rfl, ho3, hb3⟩
  have HO3 := Lib.hid ho3
  have HB3 := Lib.hid (HB2.out.trans (hb3.mono hs1))
  clear ho3 hb3
  go_wp2_with fail
  go_ret
  refine ⟨_, rfl, ?_, HB3.out⟩
  have e1 : h.filter (fun z => !!iB l al z) = idlL h l al := by unfold idlL; congr 1; funext z; simp
  have := HO3.out
  rw [e1] at this
  exact this.mono hs1

theorem rack_any (v : Value) (l : List Nq) (z : Int) (w : World) (hl : l.length ≤ 1000) (hR : Rd w 4 v l.length (l.flatMap noC)) :
    Calls Try.prog 45 #[v, .int .i64 z] w fun e w' => e = .returned (.int .i64 (rackV l z)) ∧ Below w.heap.size w w' := by
  have HR := Lib.hid hR
  have hv : rackV l z = ((findL l z).map (·.2.1)).getD 0 := rfl
  have HV := Lib.hid hv
  clear hR hv
  go_enter Try.func45, Try.ntmps45
  go_wp2_with fail
  refine (find_any v l z w hl HR.out).mono ?_
  rintro e w1 ⟨rfl, hb1⟩
  have HB1 := Lib.hid hb1
  obtain ⟨o, ho⟩ : ∃ o, findL l z = o := ⟨_, rfl⟩
  rw [ho] at HV ⊢
  clear hb1 ho
  cases o with
  | none =>
    simp only [optN, noV, Option.getD_none, Option.isSome_none]
    go_wp2_with fail
    go_ret
    exact ⟨by rw [HV.out]; rfl, below_then HB1.out (below_one _ _)⟩
  | some x =>
    obtain ⟨x0, x1, x2, x3⟩ := x
    simp only [optN, noV, Option.getD_some, Option.isSome_some]
    go_wp2_with fail
    go_ret
    exact ⟨by rw [HV.out]; rfl, below_then HB1.out (below_one _ _)⟩

end Go.Proofs.Ytflndnbjdhbppaa

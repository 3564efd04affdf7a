/- queue.living, Good: their contracts. -/
import Derived.Test.YtflndnbjdhbppaaDelFLiv
import Derived.Test.YtflndnbjdhbppaaDelFGoo
import Derived.Test.YtflndnbjdhbppaaNodesF
namespace Go.Proofs.Ytflndnbjdhbppaa
open Go Go.RowKit

def servB (l : List Nq) (z : Int) : Bool := (findL l z).any (fun x => x.2.2.2 == 0)
def livL (h al : List Int) : List Int := h.filter (hasB al)
def goodL (h : List Int) (l : List Nq) (al : List Int) : List Int := (livL h al).filter (servB l)
theorem livL_len (h al : List Int) : (livL h al).length ≤ h.length := List.length_filter_le _ _
theorem goodL_len (h : List Int) (l : List Nq) (al : List Int) : (goodL h l al).length ≤ h.length := Nat.le_trans (List.length_filter_le _ _) (livL_len h al)

theorem liv1_any (B : Nat) (w : World) (bx : Nat) (va : Value) (al : List Int) (hbx : Bx w bx 37 [va]) (hA : Rd w 1 va al.length (al.flatMap inC)) (hlt : bx < B) (hB : w.heap.size ≤ B) : Pred_liv B w (.pointer (some ⟨bx, 0, none⟩)) (fun z => !hasB al z) := by
  intro z W hbel
  have c0 := (hbx.below hbel hlt).cell 0
  simp only [List.getElem?_cons_zero] at c0
  have HA := Lib.hid (hA.below hbel hB)
  obtain ⟨A, cap, hv, _, _⟩ := hA.shape
  subst hv
  clear hbx hA hbel
  go_enter Try.func63, Try.ntmps63
  go_wp2_with (go_at_call 64; refine (has_in _ al z W HA.out).mono ?_; rintro e w' ⟨rfl, rfl⟩)
  go_ret
  exact ⟨rfl, Below.refl _ _⟩

def chV (c0 c1 c2 : Int) (vh : Value) : Value := .agg #[.int .i64 c0, .int .i64 c1, .int .u32 c2, vh]

set_option maxHeartbeats 1000000 in
theorem living_any (c0 c1 c2 : Int) (vh : Value) (h : List Int) (va : Value) (al : List Int) (w : World) (hl : h.length ≤ 1000) (hH : Rd w 1 vh h.length (h.flatMap inC)) (hA : Rd w 1 va al.length (al.flatMap inC)) :
    Calls Try.prog 41 #[.agg #[.int .i64 c0, .int .i64 c1, .int .u32 c2, vh], va] w (FreshI (livL h al) w) := by
  have hmf : ∀ (fn : Fn) (first cap : Array Value) (w : World), (Instr.makeFunc fn first cap).run Try.prog w = .ok (.func fn first cap) w := fun _ _ _ _ => rfl
  obtain ⟨A, cap, hv, _, _⟩ := hH.shape
  subst hv
  obtain ⟨Aa, capa, hva, _, _⟩ := hA.shape
  subst hva
  have HH := Lib.hid hH
  have HA := Lib.hid hA
  clear hH hA
  go_enter Try.func41, Try.ntmps41
  go_wp2_with fail
  have hal := below2 w (.cells #[.int .i64 c0, .int .i64 c1, .int .u32 c2, .slice A h.length cap] 39) (.cells #[.slice Aa al.length capa] 37)
  have hbx : Bx ((w.alloc (.cells #[.int .i64 c0, .int .i64 c1, .int .u32 c2, .slice A h.length cap] 39)).alloc (.cells #[.slice Aa al.length capa] 37)) (w.heap.size + 1) 37 [.slice Aa al.length capa] := by
    have := Bx.new (w.alloc (.cells #[.int .i64 c0, .int .i64 c1, .int .u32 c2, .slice A h.length cap] 39)) 37 [.slice Aa al.length capa]
    rw [World.size_alloc] at this
    exact this
  generalize ((w.alloc (.cells #[.int .i64 c0, .int .i64 c1, .int .u32 c2, .slice A h.length cap] 39)).alloc (.cells #[.slice Aa al.length capa] 37)) = w1 at *
  refine (clone_in _ h w1 hl (HH.out.below hal (Nat.le_refl _))).mono ?_
  rintro e w2 ⟨v2, rfl, ho2, hb2⟩
  have HB2 := Lib.hid (below_then hal hb2)
  have HO2 := Lib.hid ho2
  have HX2 := Lib.hid (hbx.below' hb2)
  have HA2 := Lib.hid ((HA.out.below hal (Nat.le_refl _)).below hb2 (Nat.le_refl _))
  have hs1 := hal.size
  have hs2 := hb2.size
  have HXL := Lib.hid hbx.lt
  have HA1 := Lib.hid (HA.out.below hal (Nat.le_refl _))
  have HBB := Lib.hid hb2
  have HX1 := Lib.hid hbx
  clear ho2 hb2 hbx hal
  go_wp2_with fail
  refine (deleteF_liv w1.heap.size v2 h (.pointer (some ⟨w.heap.size + 1, 0, none⟩)) (fun z => !hasB al z) w2 hl hs2 HO2.out ?_).mono ?_
  · intro z W hb
    exact liv1_any w1.heap.size w1 (w.heap.size + 1) _ al HX1.out HA1.out HXL.out (Nat.le_refl _) z W (HBB.out.trans hb)
  rintro e w3 ⟨v3, rfl, ho3, hb3⟩
  have HO3 := Lib.hid ho3
  have HB3 := Lib.hid (HB2.out.trans (hb3.mono hs1))
  clear ho3 hb3
  go_wp2_with fail
  go_ret
  refine ⟨_, rfl, ?_, HB3.out⟩
  have e1 : h.filter (fun z => !!hasB al z) = livL h al := by unfold livL; congr 1; funext z; simp
  have := HO3.out
  rw [e1] at this
  exact this.mono hs1

theorem goo1_any (B : Nat) (w : World) (bx : Nat) (vn : Value) (l : List Nq) (hl : l.length ≤ 1000) (hbx : Bx w bx 40 [vn]) (hN : Rd w 4 vn l.length (l.flatMap noC)) (hlt : bx < B) (hB : w.heap.size ≤ B) : Pred_goo B w (.pointer (some ⟨bx, 0, none⟩)) (fun z => !servB l z) := by
  intro z W hbel
  have c0 := (hbx.below hbel hlt).cell 0
  simp only [List.getElem?_cons_zero] at c0
  have HN := Lib.hid (hN.below hbel hB)
  obtain ⟨A, cap, hv, _, _⟩ := hN.shape
  subst hv
  clear hbx hN hbel
  have hs : servB l z = (findL l z).any (fun x => x.2.2.2 == 0) := rfl
  have HS := Lib.hid hs
  clear hs
  go_enter Try.func42, Try.ntmps42
  go_wp2_with fail
  refine (find_any _ l z W hl HN.out).mono ?_
  rintro e w1 ⟨rfl, hb1⟩
  have HB1 := Lib.hid hb1
  obtain ⟨o, ho⟩ : ∃ o, findL l z = o := ⟨_, rfl⟩
  rw [ho] at HS ⊢
  clear hb1 ho c0
  cases o with
  | none =>
    simp only [optN, noV, Option.getD_none, Option.isSome_none]
    go_wp2_with fail
    go_ret
    exact ⟨by rw [HS.out]; rfl, below_then HB1.out (below_one _ _)⟩
  | some x =>
    obtain ⟨x0, x1, x2, x3⟩ := x
    simp only [optN, noV, Option.getD_some, Option.isSome_some]
    by_cases hx : x3 = 0
    · subst hx
      go_wp2_with fail
      go_ret
      exact ⟨by rw [HS.out]; rfl, below_then HB1.out (below_one _ _)⟩
    · have hx' : (x3 != 0) = true := by simpa using hx
      have hx2 : (x3 == 0) = false := by simpa using hx
      have HX := Lib.hid hx2
      clear hx2
      go_wp2_with fail
      go_ret
      exact ⟨by rw [HS.out]; simp [HX.out], below_then HB1.out (below_one _ _)⟩

set_option maxHeartbeats 1000000 in
theorem good_any (c0 c1 c2 : Int) (vh : Value) (h : List Int) (vn : Value) (l : List Nq) (va : Value) (al : List Int) (w : World) (hl : h.length ≤ 1000) (hll : l.length ≤ 1000) (hH : Rd w 1 vh h.length (h.flatMap inC)) (hN : Rd w 4 vn l.length (l.flatMap noC)) (hA : Rd w 1 va al.length (al.flatMap inC)) :
    Calls Try.prog 20 #[.agg #[.int .i64 c0, .int .i64 c1, .int .u32 c2, vh], vn, va] w (FreshI (goodL h l al) w) := by
  have hmf : ∀ (fn : Fn) (first cap : Array Value) (w : World), (Instr.makeFunc fn first cap).run Try.prog w = .ok (.func fn first cap) w := fun _ _ _ _ => rfl
  obtain ⟨A, cap, hv, _, _⟩ := hH.shape
  subst hv
  obtain ⟨An, capn, hvn, _, _⟩ := hN.shape
  subst hvn
  have HH := Lib.hid hH
  have HN := Lib.hid hN
  have HA := Lib.hid hA
  clear hH hA hN
  go_enter Try.func20, Try.ntmps20
  go_wp2_with fail
  have hal := below2 w (.cells #[.int .i64 c0, .int .i64 c1, .int .u32 c2, .slice A h.length cap] 39) (.cells #[.slice An l.length capn] 40)
  have hbx : Bx ((w.alloc (.cells #[.int .i64 c0, .int .i64 c1, .int .u32 c2, .slice A h.length cap] 39)).alloc (.cells #[.slice An l.length capn] 40)) (w.heap.size + 1) 40 [.slice An l.length capn] := by
    have := Bx.new (w.alloc (.cells #[.int .i64 c0, .int .i64 c1, .int .u32 c2, .slice A h.length cap] 39)) 40 [.slice An l.length capn]
    rw [World.size_alloc] at this
    exact this
  generalize ((w.alloc (.cells #[.int .i64 c0, .int .i64 c1, .int .u32 c2, .slice A h.length cap] 39)).alloc (.cells #[.slice An l.length capn] 40)) = w1 at *
  refine (living_any c0 c1 c2 _ h va al w1 hl (HH.out.below hal (Nat.le_refl _)) (HA.out.below hal (Nat.le_refl _))).mono ?_
  rintro e w2 ⟨v2, rfl, ho2, hb2⟩
  have HB2 := Lib.hid (below_then hal hb2)
  have HO2 := Lib.hid ho2
  have hs1 := hal.size
  have hs2 := hb2.size
  have HXL := Lib.hid hbx.lt
  have HN1 := Lib.hid (HN.out.below hal (Nat.le_refl _))
  have HBB := Lib.hid hb2
  have HX1 := Lib.hid hbx
  have hll2 := livL_len h al
  clear ho2 hb2 hbx hal
  go_wp2_with fail
  refine (deleteF_goo w1.heap.size v2 (livL h al) (.pointer (some ⟨w.heap.size + 1, 0, none⟩)) (fun z => !servB l z) w2 (by omega) hs2 HO2.out ?_).mono ?_
  · intro z W hb
    exact goo1_any w1.heap.size w1 (w.heap.size + 1) _ l hll HX1.out HN1.out HXL.out (Nat.le_refl _) z W (HBB.out.trans hb)
  rintro e w3 ⟨v3, rfl, ho3, hb3⟩
  have HO3 := Lib.hid ho3
  have HB3 := Lib.hid (HB2.out.trans (hb3.mono hs1))
  clear ho3 hb3
  go_wp2_with fail
  go_ret
  refine ⟨_, rfl, ?_, HB3.out⟩
  have e1 : (livL h al).filter (fun z => !!servB l z) = goodL h l al := by unfold goodL; congr 1; funext z; simp
  have := HO3.out
  rw [e1] at this
  exact this.mono hs1

end Go.Proofs.Ytflndnbjdhbppaa

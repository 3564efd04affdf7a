/- trim.Whole: its contract. -/
import Derived.Test.YtflndnbjdhbppaaTrimI
import Derived.Test.YtflndnbjdhbppaaNodesR
namespace Go.Proofs.Ytflndnbjdhbppaa
open Go Go.RowKit

set_option maxHeartbeats 2000000 in
theorem whole_any (c0 c1 c2 : Int) (vh : Value) (h : List Int) (vn : Value) (l : List Nq) (va : Value) (al : List Int) (want : Int) (w : World) (hl : h.length ≤ 1000) (hll : l.length ≤ 1000) (hH : Rd w 1 vh h.length (h.flatMap inC)) (hN : Rd w 4 vn l.length (l.flatMap noC)) (hA : Rd w 1 va al.length (al.flatMap inC)) :
    Calls Try.prog 31 #[.agg #[.int .i64 c0, .int .i64 c1, .int .u32 c2, vh], vn, va, .int .i64 want] w fun e w' => e = .returned (.bool (wholeT h l al want)) ∧ Below w.heap.size w w' := by
  obtain ⟨A, cap, hv, _, _⟩ := hH.shape
  subst hv
  have HH := Lib.hid hH
  have HN := Lib.hid hN
  have HA := Lib.hid hA
  have hw : wholeT h l al want = (decide (((goodL h l al).length : Int) = want) && decide ((idlL h l al).length = 0) && decide (mn2 want ≤ (racksN l (goodL h l al) : Int))) := rfl
  obtain ⟨m, hm⟩ : ∃ m, mn2 want = m := ⟨_, rfl⟩
  have hgl := goodL_len h l al
  obtain ⟨g, hg⟩ : ∃ g, goodL h l al = g := ⟨_, rfl⟩
  rw [hm, hg] at hw
  rw [hg] at hgl
  have HW := Lib.hid hw
  have HG := Lib.hid hg
  have hmi : (if want < 2 then want else 2) = m := hm
  clear hH hA hN hw hg hm
  go_enter Try.func31, Try.ntmps31
  go_wp2_with fail
  have hal := below_one w (.cells #[.int .i64 c0, .int .i64 c1, .int .u32 c2, .slice A h.length cap] 39)
  have hbc := Bx.new w 39 [.int .i64 c0, .int .i64 c1, .int .u32 c2, .slice A h.length cap]
  change Bx (w.alloc (.cells #[.int .i64 c0, .int .i64 c1, .int .u32 c2, .slice A h.length cap] 39)) _ _ _ at hbc
  generalize (w.alloc (.cells #[.int .i64 c0, .int .i64 c1, .int .u32 c2, .slice A h.length cap] 39)) = w1 at *
  refine (good_any c0 c1 c2 _ h _ l va al w1 hl hll (HH.out.below hal (Nat.le_refl _)) (HN.out.below hal (Nat.le_refl _)) (HA.out.below hal (Nat.le_refl _))).mono ?_
  rintro e w2 ⟨v2, rfl, ho2, hb2⟩
  rw [HG.out] at ho2
  obtain ⟨A2, cap2, hv2⟩ := ho2.slice_
  subst hv2
  obtain ⟨q0, q1, q2, q3⟩ := (hbc.below' hb2).four
  have HG2 := Lib.hid ho2.rd
  have HB2 := Lib.hid (below_then hal hb2)
  clear hal hbc ho2 hb2
  by_cases h1 : (g.length : Int) = want
  · have h1' : ((g.length : Int) == want) = true := by simpa using h1
    have H1 := Lib.hid h1
    clear h1
    go_wp2_with fail
    refine (idle_any c0 c1 c2 _ h _ l va al w2 hl hll (HH.out.below HB2.out (Nat.le_refl _)) (HN.out.below HB2.out (Nat.le_refl _)) (HA.out.below HB2.out (Nat.le_refl _))).mono ?_
    rintro e w3 ⟨v3, rfl, ho3, hb3⟩
    obtain ⟨A3, cap3, hv3⟩ := ho3.slice_
    subst hv3
    have HB3 := Lib.hid (below_then HB2.out hb3)
    have HG3 := Lib.hid (HG2.out.below hb3 (Nat.le_refl _))
    obtain ⟨ni, hni⟩ : ∃ n, (idlL h l al).length = n := ⟨_, rfl⟩
    rw [hni] at HW ⊢
    clear ho3 hb3 q0 q1 q2 q3 hni
    by_cases h2 : ni = 0
    · subst h2
      go_wp2_with fail
      refine (racks_any _ _ l g w3 hll (by omega) (HN.out.below HB3.out (Nat.le_refl _)) HG3.out).mono ?_
      rintro e w4 ⟨rfl, hb4⟩
      have HB4 := Lib.hid (below_then HB3.out hb4)
      clear hb4
      obtain ⟨r, hr⟩ : ∃ r, racksN l g = r := ⟨_, rfl⟩
      rw [hr] at HW ⊢
      clear hr
      go_wp2_with fail
      all_goals (go_ret; refine ⟨?_, HB4.out⟩; rw [HW.out, decide_eq_true H1.out])
      all_goals simp
      all_goals (split at hmi <;> omega)
    · have h2' : ((ni : Int) == 0) = false := by simpa using (by omega : ¬ (ni : Int) = 0)
      have H2 := Lib.hid h2
      clear h2
      go_wp2_with fail
      go_ret
      refine ⟨?_, HB3.out⟩
      rw [HW.out, decide_eq_false H2.out]
      simp
  · have h1' : ((g.length : Int) == want) = false := by simpa using h1
    have H1 := Lib.hid h1
    clear h1
    go_wp2_with fail
    go_ret
    refine ⟨?_, HB2.out⟩
    rw [HW.out, decide_eq_false H1.out]
    simp

end Go.Proofs.Ytflndnbjdhbppaa

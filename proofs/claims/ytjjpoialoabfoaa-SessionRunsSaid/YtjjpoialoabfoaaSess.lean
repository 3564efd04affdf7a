/- session.may, May, find, Look: their contracts. -/
import Derived.Test.YtjjpoialoabfoaaSessM
import Derived.Test.YtjjpoialoabfoaaSearchSe
import Derived.Test.YtjjpoialoabfoaaCloneSe
namespace Go.Proofs.Ytjjpoialoabfoaa
open Go Go.RowKit

theorem smay_any (a b c : Int) (w : World) :
    Calls Try.prog 16 #[.agg #[.int .i64 a, .int .i64 b, .int .i64 c]] w fun e w' => e = .returned (.bool (mayS (a, b, 0))) ∧ Below w.heap.size w w' := by
  have key : ∀ r : Bool, mayS (a, b, 0) = r → Calls Try.prog 16 #[.agg #[.int .i64 a, .int .i64 b, .int .i64 c]] w fun e w' => e = .returned (.bool r) ∧ Below w.heap.size w w' := by
    intro r hr
    have hN : mayS (a, b, 0) = decide ((1 ≤ a ∧ a ≤ 1048576) ∧ (1 ≤ b ∧ b ≤ 1099511627776)) := rfl
    rw [hN] at hr
    by_cases h1 : 1 ≤ a
    · by_cases h2 : a ≤ 1048576
      · by_cases h3 : 1 ≤ b
        · by_cases h4 : b ≤ 1099511627776
          · obtain rfl : r = true := by rw [← hr]; exact decide_eq_true ⟨⟨h1, h2⟩, h3, h4⟩
            clear hr hN
            go_enter Try.func16, Try.ntmps16
            go_wp2
            go_ret
            exact ⟨rfl, below_one _ _⟩
          · obtain rfl : r = false := by rw [← hr]; exact decide_eq_false (fun h => by omega)
            clear hr hN
            go_enter Try.func16, Try.ntmps16
            go_wp2
            go_ret
            exact ⟨rfl, below_one _ _⟩
        · obtain rfl : r = false := by rw [← hr]; exact decide_eq_false (fun h => by omega)
          clear hr hN
          go_enter Try.func16, Try.ntmps16
          go_wp2
          go_ret
          exact ⟨rfl, below_one _ _⟩
      · obtain rfl : r = false := by rw [← hr]; exact decide_eq_false (fun h => by omega)
        clear hr hN
        go_enter Try.func16, Try.ntmps16
        go_wp2
        go_ret
        exact ⟨rfl, below_one _ _⟩
    · obtain rfl : r = false := by rw [← hr]; exact decide_eq_false (fun h => by omega)
      clear hr hN
      go_enter Try.func16, Try.ntmps16
      go_wp2
      go_ret
      exact ⟨rfl, below_one _ _⟩
  exact key _ rfl

set_option maxHeartbeats 1000000 in
theorem sMay_any (v : Value) (l : List Se) (w : World) (hR : Rd w 3 v l.length (l.flatMap seC)) :
    Calls Try.prog 11 #[v] w fun e w' => e = .returned (.bool (maySL l)) ∧ Below w.heap.size w w' := by
  obtain ⟨A, cap, hv, hcap, hnc⟩ := hR.shape
  subst hv
  obtain ⟨n, hn⟩ : ∃ n, l.length = n := ⟨_, rfl⟩
  have HR := Lib.hid hR
  have HN := Lib.hid hn
  rw [hn] at hnc ⊢
  clear hR hn
  have hnm : n ≤ 9223372036854775807 := by omega
  go_enter Try.func11, Try.ntmps11
  go_wp2_with fail
  go_loopw [3, 8] (fun s3 s8 wr => ∃ (k : Nat) (last : Int), s8 = .int .i64 k ∧ k ≤ n ∧ s3 = .int .i64 last ∧ (k = 0 ∧ last = 0 ∨ 0 < k ∧ last = (at_ l (k - 1)).1) ∧ (∀ j, j < k → maySP (at_ l j) ∧ (0 < j → (at_ l (j - 1)).1 < (at_ l j).1)) ∧ Below w.heap.size w wr) (fun _ s8 _ => n - (intOf s8).toNat)
  case atStart => exact ⟨0, 0, rfl, by omega, rfl, .inl ⟨rfl, rfl⟩, fun j hj => absurd hj (by omega), Below.refl _ _⟩
  case round =>
    obtain ⟨k, last, rfl, hk, rfl, hlast, hall, hbel⟩ := hrel
    have HL := Lib.hid hlast
    have HA := Lib.hid hall
    have HB := Lib.hid hbel
    clear hlast hall hbel
    by_cases hlt : k < n
    · have hltI : (k : Int) < (n : Int) := by omega
      have hR1 := HR.out.below HB.out (Nat.le_refl _)
      rw [HN.out] at hR1
      obtain ⟨b, off, hA, hbl⟩ := hR1.addr (by omega)
      subst hA
      obtain ⟨c0, c1, c2⟩ := rd_se hR1 k (by rw [HN.out]; exact hlt)
      obtain ⟨x, hx⟩ : ∃ x, at_ l k = x := ⟨_, rfl⟩
      rw [hx] at c0 c1 c2
      obtain ⟨x0, x1, x2⟩ := x
      simp only at c0 c1 c2
      have HX := Lib.hid hx
      have HAL := Lib.hid (below_one wr (.cells #[.int .i64 x0, .int .i64 x1, .int .i64 x2] 37))
      clear hx hR1
      go_wp2_with (go_at_call 16; refine (smay_any _ _ _ _).mono ?_; rintro e w1 ⟨rfl, hb1⟩; have t0 := (hb1.cell (p := ⟨wr.heap.size, 0, none⟩) (by simp)).trans (World.cell?_alloc_at _ _ _ _ (by simp)); have HB1 := Lib.hid (below_then HAL.out hb1); clear hb1; simp only [List.getElem?_toArray, List.getElem?_cons_zero] at t0)
      · have h1 : x0 ≤ last := by assumption
        go_ret
        refine ⟨?_, below_then HB.out HB1.out⟩
        rw [maySL_bad (l := l) (k := k) (by rw [HN.out]; exact hlt)]; rfl
        intro ⟨g1, g2, g3⟩
        rw [HX.out] at g1 g2 g3
        rcases HL.out with ⟨e1, e2⟩ | ⟨e1, e2⟩
        · simp only at g3; omega
        · have := g2 e1; simp only at this; omega
      · have h1 : ¬ x0 ≤ last := by omega
        have h2 : mayS (x0, x1, 0) = true := by assumption
        go_roundw
        case rel =>
          refine ⟨k + 1, x0, by go_num, by omega, rfl, .inr ⟨by omega, by rw [Nat.add_sub_cancel, HX.out]⟩, fun j hj => ?_, below_then HB.out HB1.out⟩
          by_cases e : j = k
          · subst e
            rw [HX.out]
            refine ⟨of_decide_eq_true h2, fun h0 => ?_⟩
            rcases HL.out with ⟨e1, e2⟩ | ⟨e1, e2⟩
            · omega
            · simp only; omega
          · exact HA.out j (by omega)
        case measure => simp [intOf]; omega
      · have h2 : mayS (x0, x1, 0) = false := by simpa using ‹¬ mayS (x0, x1, 0) = true›
        go_ret
        refine ⟨?_, below_then HB.out HB1.out⟩
        rw [maySL_bad (l := l) (k := k) (by rw [HN.out]; exact hlt)]; rfl
        intro ⟨g1, g2, g3⟩
        rw [HX.out] at g1
        exact absurd g1 (of_decide_eq_false h2)
    · obtain rfl : k = n := by omega
      go_wp2_with fail
      go_ret
      refine ⟨?_, HB.out⟩
      rw [maySL_good (l := l) (by rw [HN.out]; exact HA.out), HN.out]
      have : decide ((k : Int) ≤ 16) = decide (k ≤ 16) := decide_eq_decide.2 (by omega)
      rw [← this]
      rfl

theorem sfind_any (A : Option Addr) (cap : Nat) (l : List Se) (id : Int) (w : World) (hl : l.length ≤ 1000) (hR : Rd w 3 (.slice A l.length cap) l.length (l.flatMap seC)) :
    Calls Try.prog 17 #[.slice A l.length cap, .int .i64 id] w (SearchE_se l id w) := by
  have HR := Lib.hid hR
  clear hR
  go_enter Try.func17, Try.ntmps17
  go_wp2_with (go_at_call 22; refine (search_se A cap l id _ hl HR.out).mono ?_; rintro e w1 ⟨i, b, hi, rfl, hb1, hc⟩)
  go_ret2
  exact ⟨i, b, hi, rfl, hb1, hc⟩

theorem lookS_of {l : List Se} {c q : Int} (h1 : maySL l = true) (h2 : mayS (c, q, 0) = true) {s : Se} (hs : sesS l c = s) : lookS l c q = (if q < s.2.1 then (0, false, 9) else if q = s.2.1 then (s.2.2, true, 0) else if q > s.2.1 + 1 then (0, false, 10) else (0, false, 0)) := by
  unfold lookS
  rw [if_neg (by simp [h1, h2]), hs]

def LookE (l : List Se) (c q : Int) (w : World) (e : Ending) (w' : World) : Prop := e = .returned (.tuple #[.int .i64 (lookS l c q).1, .bool (lookS l c q).2.1, .int .i64 (lookS l c q).2.2]) ∧ Below w.heap.size w w'

set_option maxHeartbeats 2000000 in
theorem look_any (v : Value) (l : List Se) (c q : Int) (w : World) (hl : l.length ≤ 1000) (hR : Rd w 3 v l.length (l.flatMap seC)) :
    Calls Try.prog 9 #[v, .int .i64 c, .int .i64 q] w (LookE l c q w) := by
  obtain ⟨A, cap, hv, hcap, hnc⟩ := hR.shape
  obtain ⟨n, hn⟩ : ∃ n, l.length = n := ⟨_, rfl⟩
  have HR := Lib.hid hR
  have HN := Lib.hid hn
  rw [hn] at hv hnc
  subst hv
  clear hR hn
  go_enter Try.func9, Try.ntmps9
  go_wp2_with fail
  refine (sMay_any _ l w HR.out).mono ?_
  rintro e w1 ⟨rfl, hb1⟩
  have HB1 := Lib.hid hb1
  clear hb1
  cases hm : maySL l with
  | false =>
    have HE : Hid (lookS l c q = (0, false, 1)) := by show lookS l c q = _; unfold lookS; rw [if_pos (.inl hm)]
    clear hm
    go_wp2_with fail
    go_ret3
    exact ⟨by rw [HE.out]; rfl, HB1.out⟩
  | true =>
    have HM := Lib.hid hm
    clear hm
    go_wp2_with fail
    refine (smay_any c q 0 w1).mono ?_
    rintro e w2 ⟨rfl, hb2⟩
    have HB2 := Lib.hid (below_then HB1.out hb2)
    clear hb2
    cases hq : mayS (c, q, 0) with
    | false =>
      have HE : Hid (lookS l c q = (0, false, 1)) := by show lookS l c q = _; unfold lookS; rw [if_pos (.inr hq)]
      clear hq
      go_wp2_with fail
      go_ret3
      exact ⟨by rw [HE.out]; rfl, HB2.out⟩
    | true =>
      have HQ := Lib.hid hq
      have hqb := (of_decide_eq_true hq).2.2
      simp only at hqb
      clear hq
      go_wp2_with fail
      have hal := below_one w2 (.cells #[.int .i64 0, .int .i64 0, .int .i64 0] 37)
      have HX3 := Lib.hid (Bx.new w2 37 [.int .i64 0, .int .i64 0, .int .i64 0])
      have HB3 := Lib.hid (below_then HB2.out hal)
      have hR3 := HR.out.below HB3.out (Nat.le_refl _)
      refine (by have := sfind_any A cap l c (w2.alloc (.cells #[.int .i64 0, .int .i64 0, .int .i64 0] 37)) hl (by rw [HN.out]; rw [HN.out] at hR3; exact hR3); rw [HN.out] at this; exact this : Calls Try.prog 17 #[.slice A n cap, .int .i64 c] _ (SearchE_se l c (w2.alloc (.cells #[.int .i64 0, .int .i64 0, .int .i64 0] 37)))).mono ?_
      rintro e w4 ⟨i, b, hi, rfl, hb4, hcut⟩
      obtain ⟨hcut2, hbeq⟩ := hcut (of_decide_eq_true HM.out).ris
      subst hbeq
      have hfd := hcut2.find (of_decide_eq_true HM.out).ris
      have HX4 := Lib.hid (HX3.out.below' hb4)
      have HB4 := Lib.hid (below_then HB3.out hb4)
      obtain ⟨B, hB⟩ : ∃ B, w2.heap.size = B := ⟨_, rfl⟩
      rw [hB] at HX4 ⊢
      have hWB : w.heap.size ≤ B := by have := HB2.out.size; omega
      clear hb4 hal hR3 hB hcut hcut2
      cases hat : isAt key_se l c i with
      | true =>
        rw [hat] at hfd
        obtain ⟨hil, _⟩ := of_decide_eq_true hat
        clear hat
        have hR4 := HR.out.below HB4.out (Nat.le_refl _)
        rw [HN.out] at hR4 hil
        have hiI : (i : Int) < (n : Int) := by omega
        obtain ⟨b, off, hA, hbl⟩ := hR4.addr (by omega)
        subst hA
        obtain ⟨c0, c1, c2⟩ := rd_se hR4 i (by rw [HN.out]; omega)
        obtain ⟨x, hx⟩ : ∃ x, at_ l i = x := ⟨_, rfl⟩
        have hmx := (of_decide_eq_true HM.out).2.1 x (by rw [← hx]; exact at_mem (by rw [HN.out]; exact hil))
        rw [hx] at c0 c1 c2 hfd
        obtain ⟨x0, x1, x2⟩ := x
        simp only [maySP] at c0 c1 c2 hmx
        have hx1 := hmx.2
        have HS := Lib.hid (lookS_of HM.out HQ.out (show sesS l c = (x0, x1, x2) by unfold sesS; rw [hfd]; rfl))
        clear hx hR4 hmx hfd
        go_wp2_with (with_reducible refine wpList_store_box rfl 37 _ _ rfl B 37 _ [.int .i64 x0, .int .i64 x1, .int .i64 x2] rfl HX4.out rfl rfl ?hk ?hl ?hm)
        case hk => kernel_rfl
        case hl => simp [Value.oneCell']
        case hm =>
          intro w5 hbx5 hfr5
          obtain ⟨q0, q1, q2⟩ := hbx5.three
          have HB5 := Lib.hid (HB4.out.trans (hfr5.below HB4.out.size (fun k hk => by omega)))
          clear hbx5 hfr5
          by_cases t1 : q < x1
          · go_wp2_with fail
            go_ret3
            refine ⟨?_, HB5.out⟩
            rw [HS.out, if_pos t1]; rfl
          · by_cases t2 : q = x1
            · subst t2
              go_wp2_with fail
              go_ret3
              refine ⟨?_, HB5.out⟩
              rw [show lookS l c q = (x2, true, 0) by rw [HS.out]; simp]; rfl
            · have t2' : (q == x1) = false := by simpa using t2
              by_cases t3 : x1 + 1 < q
              · go_wp2_with fail
                go_ret3
                refine ⟨?_, HB5.out⟩
                rw [HS.out, if_neg (show ¬ q < x1 by omega), if_neg (show ¬ q = x1 by omega), if_pos (show q > x1 + 1 by omega)]; rfl
              · go_wp2_with fail
                go_ret3
                refine ⟨?_, HB5.out⟩
                rw [HS.out, if_neg (show ¬ q < x1 by omega), if_neg (show ¬ q = x1 by omega), if_neg (show ¬ q > x1 + 1 by omega)]; rfl
      | false =>
        rw [hat] at hfd
        clear hat
        have HS := Lib.hid (lookS_of HM.out HQ.out (show sesS l c = (0, 0, 0) by unfold sesS; rw [hfd]; rfl))
        obtain ⟨q0, q1, q2⟩ := HX4.out.three
        have hq1 := (of_decide_eq_true HQ.out).2.1
        simp only at hq1
        clear hfd
        have t1 : ¬ q < 0 := by omega
        have t2 : ¬ q = 0 := by omega
        have t2' : (q == 0) = false := by simpa using t2
        by_cases t3 : 1 < q
        · go_wp2_with fail
          go_ret3
          refine ⟨?_, HB4.out⟩
          rw [HS.out, if_neg (show ¬ q < 0 by omega), if_neg (show ¬ q = 0 by omega), if_pos (show q > 0 + 1 by omega)]; rfl
        · go_wp2_with fail
          go_ret3
          refine ⟨?_, HB4.out⟩
          rw [HS.out, if_neg (show ¬ q < 0 by omega), if_neg (show ¬ q = 0 by omega), if_neg (show ¬ q > 0 + 1 by omega)]; rfl

end Go.Proofs.Ytjjpoialoabfoaa

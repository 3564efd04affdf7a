/- SessionNext: the walk. -/
import Derived.Test.YtjjpoialoabfoaaAwake09
import Derived.Test.YtjjpoialoabfoaaRef09P
import Derived.Test.YtjjpoialoabfoaaSessL
namespace Go.Proofs.Ytjjpoialoabfoaa
open Go Go.RowKit

set_option maxHeartbeats 4000000 in
set_option maxRecDepth 100000 in
theorem sessionNext_walk (v : Value) (l : List Se) (c q : Int) (W : World) (hR : Rd W 3 v l.length (l.flatMap seC)) :
    Calls Try.prog 7 #[v, .int .i64 c, .int .i64 q] W fun e w' => e = .returned (.bool true) ∧ Below W.heap.size W w' := by
  obtain ⟨A, cap, hv, hcap, hnc⟩ := hR.shape
  obtain ⟨n, hn⟩ : ∃ n, l.length = n := ⟨_, rfl⟩
  have HR := Lib.hid hR
  have HN := Lib.hid hn
  rw [hn] at hv hnc
  subst hv
  clear hR hn
  go_enter Try.func7, Try.ntmps7
  go_wp2_with fail
  refine (awake09 _).mono ?_
  rintro e w1 ⟨rfl, hb1⟩
  have HB1 := Lib.hid hb1
  clear hb1
  by_cases h1 : (100 : Int) < (n : Int)
  · go_wp2_with fail
    go_ret
    exact ⟨rfl, HB1.out⟩
  · have HL := Lib.hid (show l.length ≤ 100 by have := HN.out; omega)
    have hd1 : decide ((100 : Int) < (n : Int)) = false := decide_eq_false h1
    go_wp2_with fail
    refine (sMay_any _ l w1 (HR.out.below HB1.out (Nat.le_refl _))).mono ?_
    rintro e w2 ⟨rfl, hb2⟩
    have HB2 := Lib.hid (below_then HB1.out hb2)
    obtain ⟨mb, hmb⟩ : ∃ mb, maySL l = mb := ⟨_, rfl⟩
    rw [hmb]
    have HMB := Lib.hid hmb
    clear hb2 hmb
    cases mb with
    | false =>
      go_wp2_with fail
      go_ret
      exact ⟨rfl, HB2.out⟩
    | true =>
      by_cases hc1 : c < 1
      · go_wp2_with fail
        go_ret
        exact ⟨rfl, HB2.out⟩
      · by_cases hc2 : 1048576 < c
        · go_wp2_with fail
          go_ret
          exact ⟨rfl, HB2.out⟩
        · by_cases hq1 : q < 1
          · go_wp2_with fail
            go_ret
            exact ⟨rfl, HB2.out⟩
          · by_cases hq2 : 1099511627776 < q
            · go_wp2_with fail
              go_ret
              exact ⟨rfl, HB2.out⟩
            · have hML : MaySL l := of_decide_eq_true HMB.out
              have hMP : maySP (c, q, 0) := ⟨⟨by show 1 ≤ c; omega, by show c ≤ 1048576; omega⟩, by show 1 ≤ q; omega, by show q ≤ 1099511627776; omega⟩
              have HML := Lib.hid hML
              have HMP := Lib.hid hMP
              have hn16 : n ≤ 16 := by have := hML.2.2; have := HN.out; omega
              have dc1 : decide (c < 1) = false := decide_eq_false hc1
              have dc2 : decide (1048576 < c) = false := decide_eq_false hc2
              have dq1 : decide (q < 1) = false := decide_eq_false hq1
              have dq2 : decide (1099511627776 < q) = false := decide_eq_false hq2
              clear hML hMP
              go_wp2_with fail
              go_loopw [8, 9] (fun s8 s9 wr => ∃ (k : Nat) (z : Int), k ≤ n ∧ s9 = .int .i64 k ∧ s8 = .int .i64 z ∧ ((∀ j, j < k → key_se (at_ l j) ≠ c) ∧ z = 0 ∨ ∃ j, j < k ∧ key_se (at_ l j) = c ∧ z = (at_ l j).2.1) ∧ wr = w2) (fun _ s9 _ => n - (intOf s9).toNat)
              case atStart => exact ⟨0, 0, by omega, rfl, rfl, .inl ⟨fun j hj => absurd hj (by omega), rfl⟩, rfl⟩
              case round =>
                obtain ⟨k, z, hk, rfl, rfl, hz, rfl⟩ := hrel
                have HZ := Lib.hid hz
                clear hz
                by_cases hlt : k < n
                · have hltI : (k : Int) < (n : Int) := by omega
                  have hR1 := HR.out.below HB2.out (Nat.le_refl _)
                  rw [HN.out] at hR1
                  obtain ⟨b, off, hA, hbl⟩ := hR1.addr (by omega)
                  subst hA
                  obtain ⟨c0, c1, _⟩ := rd_se hR1 k (by rw [HN.out]; exact hlt)
                  obtain ⟨x, hx⟩ : ∃ x, at_ l k = x := ⟨_, rfl⟩
                  rw [hx] at c0 c1
                  obtain ⟨x0, x1, x2⟩ := x
                  simp only at c0 c1
                  have HX := Lib.hid hx
                  clear hx hR1
                  by_cases he : x0 = c
                  · subst he
                    go_wp2_with fail
                    go_roundw
                    case rel => exact ⟨k + 1, x1, by omega, by go_num, rfl, .inr ⟨k, by omega, by rw [HX.out]; rfl, by rw [HX.out]⟩, trivial⟩
                    case measure => simp [intOf]; omega
                  · have he' : (x0 == c) = false := by simpa using he
                    go_wp2_with fail
                    go_roundw
                    case rel =>
                      refine ⟨k + 1, z, by omega, by go_num, rfl, ?_, trivial⟩
                      rcases HZ.out with ⟨h1, h2⟩ | ⟨j, h1, h2, h3⟩
                      · refine .inl ⟨fun j hj => ?_, h2⟩
                        by_cases e : j = k
                        · subst e; rw [HX.out]; exact he
                        · exact h1 j (by omega)
                      · exact .inr ⟨j, by omega, h2, h3⟩
                    case measure => simp [intOf]; omega
                · obtain rfl : k = n := by omega
                  have hzs : z = (sesS l c).2.1 := by
                    rcases HZ.out with ⟨h1, h2⟩ | ⟨j, h1, h2, h3⟩
                    · rw [h2]; unfold sesS; rw [find_stop_se (by rw [HN.out]; exact h1)]; rfl
                    · have hm := HML.out.ris.find_iff.2 ⟨at_mem (l := l) (i := j) (by rw [HN.out]; exact h1), h2⟩
                      rw [h3]; unfold sesS; rw [hm]; rfl
                  have hse := putSE_of HML.out HMP.out
                  have hsq := sesS_seq HML.out c
                  rw [← hzs] at hse hsq
                  rw [HN.out] at hse
                  have hz0 := hsq.1.1
                  have hz1 := hsq.1.2
                  have HSE := Lib.hid hse
                  have HSQ := Lib.hid hsq.2
                  have hpl := putS_len HML.out.ris (c, q, 1)
                  rw [HN.out] at hpl
                  have HPL := Lib.hid hpl
                  clear hzs hse hsq HZ hpl
                  go_wp2_with fail
                  refine (put_any _ l c q 1 wr (by have := HL.out; omega) (HR.out.below HB2.out (Nat.le_refl _))).mono ?_
                  rintro e w3 ⟨v3, rfl, ho3, hb3⟩
                  obtain ⟨A3, cap3, hv3⟩ := ho3.slice_
                  subst hv3
                  have HO3 := Lib.hid ho3
                  have HB3 := Lib.hid (below_then HB2.out hb3)
                  clear hb3 ho3
                  simp only
                  obtain ⟨e0, he0⟩ : ∃ e0, putSE l c q = e0 := ⟨_, rfl⟩
                  rw [he0]
                  have HE := Lib.hid he0
                  have hse := HSE.out
                  rw [he0] at hse
                  clear he0
                  by_cases hqz : q = z + 1
                  · subst hqz
                    rw [if_neg (show ¬ z + 1 < z by omega), if_neg (show ¬ z + 1 = z by omega), if_neg (show ¬ z + 1 > z + 1 by omega)] at hse
                    by_cases hfull : z = 0 ∧ k = 16
                    · obtain ⟨rfl, rfl⟩ := hfull
                      rw [if_pos ⟨HSQ.out.1 rfl, by omega⟩] at hse
                      subst hse
                      go_wp2_with fail
                      go_ret
                      exact ⟨rfl, HB3.out⟩
                    · rw [if_neg (fun h => hfull ⟨HSQ.out.2 h.1, by omega⟩)] at hse
                      subst hse
                      obtain ⟨g1, g2, g3, g4⟩ := putSE_ok HE.out
                      have hpo : putO l (c, z + 1, 1) = putS l (c, z + 1, 1) := by unfold putO; rw [if_pos (show putSE l c (z + 1) = 0 from HE.out)]
                      have hmm : maySL (putS l (c, z + 1, 1)) = true := decide_eq_true (putS_may g1 g2 g4)
                      rw [hpo] at HO3 ⊢
                      have HMM := Lib.hid hmm
                      clear hpo hmm g1 g2 g3 g4
                      by_cases hzz : z = 0
                      · subst hzz
                        have hk16 : ((k : Int) == 16) = false := by simpa using (by omega : ¬ (k : Int) = 16)
                        have hpl : (putS l (c, 0 + 1, 1)).length = k + 1 := by rw [HPL.out, if_pos (HSQ.out.1 rfl)]
                        rw [hpl] at HO3 ⊢
                        have HPL2 := Lib.hid hpl
                        clear hpl hfull
                        go_wp2_with fail
                        refine (sMay_any _ _ w3 (by rw [HPL2.out]; exact HO3.out.rd)).mono ?_
                        rintro e w4 ⟨rfl, hb4⟩
                        have HB4 := Lib.hid (below_then HB3.out hb4)
                        rw [HMM.out]
                        clear hb4
                        go_wp2_with fail
                        go_ret
                        exact ⟨rfl, HB4.out⟩
                      · have hzz' : (z == 0) = false := by simpa using hzz
                        have hzp : (0 : Int) < z := by omega
                        have hpl : (putS l (c, z + 1, 1)).length = k := by rw [HPL.out, if_neg (fun h => hzz (HSQ.out.2 h)), Nat.add_zero]
                        rw [hpl] at HO3 ⊢
                        have HPL2 := Lib.hid hpl
                        clear hpl hfull
                        go_wp2_with fail
                        refine (sMay_any _ _ w3 (by rw [HPL2.out]; exact HO3.out.rd)).mono ?_
                        rintro e w4 ⟨rfl, hb4⟩
                        have HB4 := Lib.hid (below_then HB3.out hb4)
                        rw [HMM.out]
                        clear hb4
                        go_wp2_with fail
                        go_ret
                        exact ⟨rfl, HB4.out⟩
                  · have hqz' : (q != z + 1) = true := by simpa using hqz
                    have hne : e0 ≠ 0 := by rw [hse]; split; omega; split; omega; split; omega; omega
                    have hne' : (e0 != 0) = true := by simpa using hne
                    have hp0 : putO l (c, q, 1) = [] := by unfold putO; rw [if_neg (show ¬ putSE l c q = 0 by rw [HE.out]; exact hne)]
                    rw [hp0] at HO3 ⊢
                    simp only [List.length_nil] at HO3 ⊢
                    clear hse hp0
                    go_wp2_with fail
                    go_ret
                    exact ⟨rfl, HB3.out⟩

end Go.Proofs.Ytjjpoialoabfoaa

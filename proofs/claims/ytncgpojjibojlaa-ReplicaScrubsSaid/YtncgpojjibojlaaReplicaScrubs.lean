/- ReplicaScrubs: the walk. -/
import Derived.Test.YtncgpojjibojlaaReplicaRemoves
namespace Go.Proofs.Ytncgpojjibojlaa
open Go Go.RowKit

theorem splR_len (l : List Re) (c : Int) : (splR l c).2.length ≤ l.length := by
  have := fairR_len l
  unfold splR
  split
  · simpa using this
  · simp
theorem scrR_len (l : List Re) : (scrR l).length ≤ l.length := Nat.le_trans (List.length_filter_le _ _) (fairR_len l)

set_option maxHeartbeats 4000000 in
set_option maxRecDepth 100000 in
theorem replicaScrubs_walk (v : Value) (l : List Re) (c : Int) (W : World) (hR : Rd W 5 v l.length (l.flatMap reC)) :
    Calls Try.prog 8 #[v, .int .i64 c] W fun e w' => e = .returned (.bool true) ∧ Below W.heap.size W w' := by
  obtain ⟨A, cap, hv, _, hnc⟩ := hR.shape
  subst hv
  have HR := Lib.hid hR
  clear hR
  obtain ⟨n, hn⟩ : ∃ n, l.length = n := ⟨_, rfl⟩
  have HN := Lib.hid hn
  rw [hn] at HR hnc ⊢
  clear hn
  have HRD : Hid (∀ w', Below W.heap.size W w' → Rd w' 5 (.slice A n cap) l.length (l.flatMap reC)) := fun w' hb => by have := HR.out.below hb (Nat.le_refl _); rw [HN.out]; exact this
  go_enter Try.func8, Try.ntmps8
  go_wp2_with fail
  refine (awake10 W).mono ?_
  rintro e w1 ⟨rfl, hb1⟩
  have HB1 := Lib.hid hb1
  clear hb1
  by_cases hn : 100 < n
  · have hni : (n : Int) > 100 := by omega
    go_wp2_with fail
    go_ret
    exact ⟨rfl, HB1.out⟩
  have hni : ¬ ((n : Int) > 100) := by omega
  have hll : l.length ≤ 100 := by have := HN.out; omega
  go_wp2_with fail
  refine (mayR_any _ l w1 (HRD.out _ HB1.out)).mono ?_
  rintro e w2 ⟨rfl, hb2⟩
  have HB2 := Lib.hid (below_then HB1.out hb2)
  clear hb2
  obtain ⟨b, hb⟩ : ∃ b, mayR l = b := ⟨_, rfl⟩
  rw [hb]
  have HM := Lib.hid hb
  clear hb
  cases b with
  | false =>
    go_wp2_with fail
    go_ret
    exact ⟨rfl, HB2.out⟩
  | true =>
    go_wp2_with fail
    refine (scrub_any _ l w2 (by omega) (HRD.out _ HB2.out)).mono ?_
    rintro e w3 ⟨v3, g3, rfl, ho3, hg3, hb3⟩
    obtain ⟨Ag, capg, hvg⟩ := hg3.slice_
    subst hvg
    change Own w3 w2.heap.size 52 5 v3 (scrR l).length ((scrR l).flatMap reC) at ho3
    have hml := scrR_len l
    obtain ⟨m, hm⟩ : ∃ p, scrR l = p := ⟨_, rfl⟩
    have hmm := scrR_may l
    have hself := scrR_scr l
    have hgood := scrR_good (l := l)
    have hlaw := fun s (h : splR (scrR l) c = (0, s)) => scrubs_law h
    rw [hm] at ho3 hml hmm hself hgood hlaw
    obtain ⟨A3, cap3, hv3⟩ := ho3.slice_
    subst hv3
    have HO3 := Lib.hid ho3.rd
    have HB3 := Lib.hid (below_then HB2.out hb3)
    have HMM := Lib.hid hmm
    have HSELF := Lib.hid hself
    have HBADS : Hid (badsI (fairR m) = []) := by rw [fairR_of hmm]; exact badsI_none hgood
    have HLAW := Lib.hid hlaw
    obtain ⟨nm, hnm⟩ : ∃ k, m.length = k := ⟨_, rfl⟩
    rw [hnm] at hml ⊢
    have HNM := Lib.hid hnm
    have hnm63 : nm ≤ 9223372036854775807 := by omega
    clear hm ho3 hb3 hnm hmm hself hgood hlaw hg3
    go_wp2_with fail
    refine (scrub_any _ m w3 (by have := HNM.out; omega) (rdN HNM.out HO3.out)).mono ?_
    rintro e w4 ⟨v4, g4, rfl, ho4, hg4, hb4⟩
    change Own w4 w3.heap.size 52 5 v4 (scrR m).length ((scrR m).flatMap reC) at ho4
    rw [HSELF.out] at ho4
    rw [HBADS.out] at hg4
    obtain ⟨Ag, capg, hvg⟩ := hg4.slice_
    subst hvg
    obtain ⟨A4, cap4, hv4⟩ := ho4.slice_
    subst hv4
    have HB4 := Lib.hid (below_then HB3.out hb4)
    have HO34 := Lib.hid (HO3.out.below hb4 (Nat.le_refl _))
    have HO4 := Lib.hid ho4.rd
    rw [HNM.out]
    clear hg4 ho4 hb4
    go_wp2_with fail
    refine (same_re _ _ m m w4 (rdN HNM.out HO34.out) (rdN HNM.out HO4.out)).mono ?_
    rintro e w5 ⟨rfl, hb5⟩
    rw [decide_eq_true rfl]
    have HO5 := Lib.hid (HO34.out.below hb5 (Nat.le_refl _))
    have HB5 := Lib.hid (below_then HB4.out hb5)
    clear hb5
    go_wp2_with fail
    refine (spoil_any _ m c w5 (by have := HNM.out; omega) (rdN HNM.out HO5.out)).mono ?_
    rintro e w6 ⟨v6, rfl, ho6, hb6⟩
    have hbad := fun h => splR_bad (l := m) (c := c) h
    have hsl := splR_len m c
    obtain ⟨⟨a, s⟩, hs⟩ : ∃ p, splR m c = p := ⟨_, rfl⟩
    rw [hs] at ho6 hbad hsl ⊢
    dsimp only at ho6 hbad hsl ⊢
    obtain ⟨A6, cap6, hv6⟩ := ho6.slice_
    subst hv6
    have HS := Lib.hid hs
    have HO6 := Lib.hid ho6.rd
    have HO56 := Lib.hid (HO5.out.below hb6 (Nat.le_refl _))
    have HB6 := Lib.hid (below_then HB5.out hb6)
    obtain ⟨ns, hns⟩ : ∃ k, s.length = k := ⟨_, rfl⟩
    rw [hns] at hsl ⊢
    have HNS := Lib.hid hns
    have HBAD : Hid (a ≠ 0 → ns = 0) := fun h => by rw [← hns, hbad h]; rfl
    have hns63 : ns ≤ 9223372036854775807 := by have := HNM.out; omega
    clear hs ho6 hb6 hns hbad
    by_cases ha : a = 0
    · subst ha
      obtain ⟨h, hh1, hh2, hh3, hh4⟩ := HLAW.out s HS.out
      have HH1 := Lib.hid hh1
      have HH2 := Lib.hid hh2
      have HH3 := Lib.hid hh3
      have HH4 := Lib.hid hh4
      clear HBAD hh1 hh2 hh3 hh4
      go_wp2_with fail
      refine (held_any _ m c w6 (rdN HNM.out HO56.out)).mono ?_
      rintro e w7 ⟨rfl, hb7⟩
      rw [HH1.out]
      obtain ⟨h0, h1, h2, h3, h4⟩ := h
      simp only [optR, Option.getD_some, Option.isSome_some, reV]
      have HB7 := Lib.hid (below_then HB6.out hb7)
      have HO57 := Lib.hid (HO56.out.below hb7 (Nat.le_refl _))
      have HO67 := Lib.hid (HO6.out.below hb7 (Nat.le_refl _))
      clear hb7
      go_wp2_with fail
      have hal := below_one w7 (.cells #[.int .i64 h0, .int .i64 h1, .int .u32 h2, .bool h3, .bool h4] 52)
      have hbz := Bx.new w7 52 [.int .i64 h0, .int .i64 h1, .int .u32 h2, .bool h3, .bool h4]
      change Bx (w7.alloc (.cells #[.int .i64 h0, .int .i64 h1, .int .u32 h2, .bool h3, .bool h4] 52)) _ _ _ at hbz
      have HAL7 := Lib.hid hal
      have HBY7 := Lib.hid hbz
      clear hal hbz
      refine (scrub_any _ s _ (by have := HNS.out; have := HNM.out; omega) (rdN HNS.out (HO67.out.below HAL7.out (Nat.le_refl _)))).mono ?_
      rintro e w8 ⟨v8, g8, rfl, _, hg8, hb8⟩
      have HH2' : Hid (hasR s c h1 h2 = false) := HH2.out
      have HH3' : Hid (hasR m c h1 h2 = true) := HH3.out
      rw [HH4.out] at hg8
      obtain ⟨Ag8, capg8, hvg⟩ := hg8.slice_
      subst hvg
      have HG8 := Lib.hid hg8.rd
      have HB8 := Lib.hid (below_then (below_then HB7.out HAL7.out) hb8)
      have HO58 := Lib.hid ((HO57.out.below HAL7.out (Nat.le_refl _)).below hb8 (Nat.le_refl _))
      have HO68 := Lib.hid ((HO67.out.below HAL7.out (Nat.le_refl _)).below hb8 (Nat.le_refl _))
      have HBY8 := Lib.hid (HBY7.out.below' hb8)
      obtain ⟨by8, hby8⟩ : ∃ b, w7.heap.size = b := ⟨_, rfl⟩
      rw [hby8] at HBY8 ⊢
      clear hg8 hb8 hby8 HBY7 HAL7 HH4
      obtain ⟨q0, q1, q2, q3, q4⟩ := HBY8.out.five
      simp only [List.length_singleton]
      go_wp2_with fail
      refine (has_any _ s c h1 h2 w8 (by have := HNS.out; have := HNM.out; omega) (rdN HNS.out HO68.out)).mono ?_
      rintro e w9 ⟨rfl, hb9⟩
      rw [HH2'.out]
      have HB9 := Lib.hid (below_then HB8.out hb9)
      have HO59 := Lib.hid (HO58.out.below hb9 (Nat.le_refl _))
      have HBY9 := Lib.hid (HBY8.out.below' hb9)
      have HG9 := Lib.hid (HG8.out.below hb9 (Nat.le_refl _))
      clear hb9 q0 q1 q2 q3 q4 HBY8
      obtain ⟨q0, q1, q2, q3, q4⟩ := HBY9.out.five
      go_wp2_with fail
      refine (has_any _ m c h1 h2 w9 (by have := HNM.out; omega) (rdN HNM.out HO59.out)).mono ?_
      rintro e w10 ⟨rfl, hb10⟩
      rw [HH3'.out]
      have HB10 := Lib.hid (below_then HB9.out hb10)
      have hG10 := HG9.out.below hb10 (Nat.le_refl _)
      simp only [List.length_singleton] at hG10
      obtain ⟨bg, og, e1, hbgl⟩ := hG10.addr (by omega)
      subst e1
      have g0 := rd_int hG10 0 (by simp)
      have ez : at_ [c] 0 = c := rfl
      rw [ez] at g0
      simp only [Nat.add_zero] at g0
      clear hb10 q0 q1 q2 q3 q4 hG10 ez
      go_wp2_with fail
      go_ret
      exact ⟨by first | rfl | trivial | simp, HB10.out⟩
    · have hz := HBAD.out ha
      subst hz
      go_wp2_with fail
      go_ret
      exact ⟨rfl, HB6.out⟩

end Go.Proofs.Ytncgpojjibojlaa

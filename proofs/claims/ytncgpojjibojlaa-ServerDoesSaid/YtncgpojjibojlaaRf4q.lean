/- sutureref10.Abort, Remove, Spoil, Has: their contracts. -/
import Derived.Test.YtncgpojjibojlaaGoq
import Derived.Test.YtncgpojjibojlaaReO2q
import Derived.Test.YtncgpojjibojlaaReplicaRemovesq
namespace Go.Proofs.Ytncgpojjibojlaa
open Go Go.RowKit

theorem key_iff (c : Int) (t : Bool) (z : Re) : (kR z != 2 * c + flI t) = !(z.1 == c && z.2.2.2.1 == t) := by
  rw [Bool.eq_iff_iff]
  have := kR_eq (x := z) (c := c) (t := t)
  simp only [bne_iff_ne, ne_eq, Bool.not_eq_true', Bool.and_eq_false_iff, beq_eq_false_iff_ne]
  rw [this]
  constructor
  · intro h
    by_cases h1 : z.1 = c
    · exact .inr fun h2 => h ⟨h1, h2⟩
    · exact .inl h1
  · rintro (h | h) ⟨h1, h2⟩
    · exact h h1
    · exact h h2
theorem abtR_drop (l : List Re) (c : Int) : abtR l c = dropR (fairR l) (2 * c + flI true) := by
  unfold abtR dropR
  refine List.filter_congr fun z _ => ?_
  rw [key_iff]
  cases z.2.2.2.1 <;> rfl
theorem rmvR_drop (l : List Re) (c : Int) : (fairR l).filter (fun z => !(z.1 == c && !z.2.2.2.1)) = dropR (fairR l) (2 * c + flI false) := by
  unfold dropR
  refine List.filter_congr fun z _ => ?_
  rw [key_iff]
  cases z.2.2.2.1 <;> rfl
theorem dropR_find {l : List Re} {c : Int} {t : Bool} (h : findR l c t = none) : dropR l (2 * c + flI t) = l :=
  dropR_none fun y hy e => findR_none.1 h y hy (kR_eq.1 e)

set_option maxHeartbeats 1000000 in
theorem rabort_any (v : Value) (l : List Re) (c : Int) (w : World) (hl : l.length ≤ 1000) (hR : Rd w 5 v l.length (l.flatMap reC)) :
    Calls Try.prog 82 #[v, .int .i64 c] w (FreshR (abtR l c) w) := by
  rw [abtR_drop]
  have HR := Lib.hid hR
  clear hR
  have hfl := fairR_len l
  go_enter Try.func82, Try.ntmps82
  go_wp2_with fail
  refine (rfair_any v l w hl HR.out).mono ?_
  rintro e w1 ⟨v1, rfl, ho1, hb1⟩
  have HO1 := Lib.hid ho1
  have HB1 := Lib.hid hb1
  have hs1 := hb1.size
  obtain ⟨A1, cap1, hv1⟩ := ho1.slice_
  subst hv1
  clear ho1 hb1
  obtain ⟨n, hn⟩ : ∃ n, (fairR l).length = n := ⟨_, rfl⟩
  have HN := Lib.hid hn
  rw [hn] at hfl ⊢
  clear hn
  go_wp2_with fail
  refine (rat_any _ (fairR l) c true w1 (fairR_ris l) (rdN HN.out HO1.out.rd)).mono ?_
  rintro e w2 ⟨rfl, h2⟩
  rcases h2 with ⟨i, rfl, hi, hf, hx1, hx2, hcut, hisat⟩ | ⟨rfl, hf⟩
  · have HDC := Lib.hid (drop_at_cut hcut (fairR_ris l) hisat)
    have HI := Lib.hid hi
    have hi0 : ¬ ((i : Int) < 0) := by omega
    clear hf hx1 hx2 hcut hisat hi
    go_wp2_with fail
    refine (rdrop_any _ (fairR l) i w1 (by have := HN.out; omega) HI.out (rdN HN.out HO1.out.rd)).mono ?_
    rintro e w3 ⟨v3, rfl, ho3, hb3⟩
    rw [HDC.out] at ho3
    have HO3 := Lib.hid (ho3.mono hs1)
    have HB3 := Lib.hid (below_then HB1.out hb3)
    clear ho3 hb3
    go_wp2_with fail
    go_ret
    exact ⟨_, rfl, HO3.out, HB3.out⟩
  · have HF := Lib.hid (dropR_find hf)
    clear hf
    go_wp2_with fail
    go_ret
    exact ⟨_, rfl, by rw [HF.out]; have := HO1.out; rw [HN.out] at this ⊢; exact this, HB1.out⟩

set_option maxHeartbeats 1000000 in
theorem rremove_any (v : Value) (l : List Re) (c : Int) (w : World) (hl : l.length ≤ 1000) (hR : Rd w 5 v l.length (l.flatMap reC)) :
    Calls Try.prog 83 #[v, .int .i64 c] w (FreshT (rmvR l c) w) := by
  have HR := Lib.hid hR
  have hrm : rmvR l c = if (findR (fairR l) c false).isSome then (0, dropR (fairR l) (2 * c + flI false)) else (5, []) := by unfold rmvR; rw [rmvR_drop]
  have HRM := Lib.hid hrm
  clear hR hrm
  have hfl := fairR_len l
  go_enter Try.func83, Try.ntmps83
  go_wp2_with fail
  refine (rfair_any v l w hl HR.out).mono ?_
  rintro e w1 ⟨v1, rfl, ho1, hb1⟩
  have HO1 := Lib.hid ho1
  have HB1 := Lib.hid hb1
  have hs1 := hb1.size
  obtain ⟨A1, cap1, hv1⟩ := ho1.slice_
  subst hv1
  clear ho1 hb1
  obtain ⟨n, hn⟩ : ∃ n, (fairR l).length = n := ⟨_, rfl⟩
  have HN := Lib.hid hn
  rw [hn] at hfl ⊢
  clear hn
  go_wp2_with fail
  refine (rat_any _ (fairR l) c false w1 (fairR_ris l) (rdN HN.out HO1.out.rd)).mono ?_
  rintro e w2 ⟨rfl, h2⟩
  rcases h2 with ⟨i, rfl, hi, hf, hx1, hx2, hcut, hisat⟩ | ⟨rfl, hf⟩
  · have hrr : rmvR l c = (0, dropR (fairR l) (2 * c + flI false)) := by rw [HRM.out, hf]; rfl
    have HRR := Lib.hid hrr
    have HDC := Lib.hid (drop_at_cut hcut (fairR_ris l) hisat)
    have HI := Lib.hid hi
    have hi0 : ¬ ((i : Int) < 0) := by omega
    clear hf hx1 hx2 hcut hisat hi hrr HRM
    go_wp2_with fail
    refine (rdrop_any _ (fairR l) i w1 (by have := HN.out; omega) HI.out (rdN HN.out HO1.out.rd)).mono ?_
    rintro e w3 ⟨v3, rfl, ho3, hb3⟩
    rw [HDC.out] at ho3
    have HO3 := Lib.hid (ho3.mono hs1)
    have HB3 := Lib.hid (below_then HB1.out hb3)
    clear ho3 hb3
    go_wp2_with fail
    refine bodyPost_ret (v := .tuple #[v3, .int .i64 0]) (by simp [results, Try.results83, go_sem]) rfl ?_
    rw [HRR.out]
    exact ⟨_, rfl, HO3.out, HB3.out⟩
  · have hrr : rmvR l c = (5, []) := by rw [HRM.out, hf]; rfl
    have HRR := Lib.hid hrr
    clear hf hrr HRM
    go_wp2_with fail
    refine bodyPost_ret (v := .tuple #[.slice none 0 0, .int .i64 5]) (by simp [results, Try.results83, go_sem]) rfl ?_
    rw [HRR.out]
    exact ⟨_, rfl, Own.nil_ _ _ _ _, HB1.out⟩

set_option maxHeartbeats 1000000 in
theorem rspoil_any (v : Value) (l : List Re) (c : Int) (w : World) (hl : l.length ≤ 1000) (hR : Rd w 5 v l.length (l.flatMap reC)) :
    Calls Try.prog 84 #[v, .int .i64 c] w (FreshT (splR l c) w) := by
  have HR := Lib.hid hR
  have hrm : splR l c = if (findR (fairR l) c false).isSome then (0, (fairR l).map (fun z => if kR z = 2 * c then badOf z else z)) else (5, []) := rfl
  have HRM := Lib.hid hrm
  clear hR hrm
  have hfl := fairR_len l
  go_enter Try.func84, Try.ntmps84
  go_wp2_with fail
  refine (rfair_any v l w hl HR.out).mono ?_
  rintro e w1 ⟨v1, rfl, ho1, hb1⟩
  have HO1 := Lib.hid ho1
  have HB1 := Lib.hid hb1
  have hs1 := hb1.size
  obtain ⟨A1, cap1, hv1⟩ := ho1.slice_
  subst hv1
  clear ho1 hb1
  obtain ⟨n, hn⟩ : ∃ n, (fairR l).length = n := ⟨_, rfl⟩
  have HN := Lib.hid hn
  rw [hn] at hfl ⊢
  clear hn
  go_wp2_with fail
  refine (rat_any _ (fairR l) c false w1 (fairR_ris l) (rdN HN.out HO1.out.rd)).mono ?_
  rintro e w2 ⟨rfl, h2⟩
  rcases h2 with ⟨i, rfl, hi, hf, hx1, hx2, hcut, hisat⟩ | ⟨rfl, hf⟩
  · have hrr : splR l c = (0, (fairR l).set i (badOf (at_ (fairR l) i))) := by rw [HRM.out, hf, spl_set (fairR_ris l) hi hx1 hx2]; rfl
    have HRR := Lib.hid hrr
    have hO2 := HO1.out
    rw [HN.out] at hO2 hi
    obtain ⟨fl, hfl2⟩ : ∃ fl, fairR l = fl := ⟨_, rfl⟩
    rw [hfl2] at HRR HN hO2
    obtain ⟨g, off, cap, hv, hnc, hcm, hbg, hgl, hbk⟩ := hO2.form (by omega)
    injection hv with e1 e2 e3
    subst e1 e3
    have hiI : (i : Int) < (n : Int) := by omega
    have hi0 : ¬ ((i : Int) < 0) := by omega
    obtain ⟨c0, c1, c2, c3, c4⟩ := rd_re hO2.rd i (by rw [HN.out]; exact hi)
    have hz := hO2.frozen (by omega) (off + i * 5 + 1 + 1 + 1 + 1)
    have hset : Own (w1.setCell ⟨g, off + i * 5 + 1 + 1 + 1 + 1, none⟩ (.bool true)) w.heap.size 52 5 (.slice (some ⟨g, off, none⟩) n cap1) n ((fl.set i (badOf (at_ fl i))).flatMap reC) := by
      have e3 := flat_set reC 5 reC_len fl i 4 (badOf (at_ fl i)) (.bool true) (by rw [HN.out]; exact hi) (by omega) (by rw [← at_eq (by rw [HN.out]; exact hi)]; rfl)
      rw [← e3]
      exact hO2.set_ (i * 5 + 4) (by omega) (.bool true)
    have HSET := Lib.hid hset
    have hlen : (fl.set i (badOf (at_ fl i))).length = n := by rw [List.length_set]; exact HN.out
    have HLEN := Lib.hid hlen
    have HB3 : Hid (Below w.heap.size w (w1.setCell ⟨g, off + i * 5 + 1 + 1 + 1 + 1, none⟩ (.bool true))) := HB1.out.setCell (show w.heap.size ≤ g by exact hbg) _
    clear hf hx1 hx2 hfl2 hO2 hbk hset hlen hrr HRM hcut hisat HO1
    go_wp2_with fail
    refine bodyPost_ret (v := .tuple #[.slice (some ⟨g, off, none⟩) n cap1, .int .i64 0]) (by simp [results, Try.results84, go_sem]) rfl ?_
    rw [HRR.out]
    exact ⟨_, rfl, by simp only; rw [HLEN.out]; exact HSET.out, HB3.out⟩
  · have hrr : splR l c = (5, []) := by rw [HRM.out, hf]; rfl
    have HRR := Lib.hid hrr
    clear hf hrr HRM
    go_wp2_with fail
    refine bodyPost_ret (v := .tuple #[.slice none 0 0, .int .i64 5]) (by simp [results, Try.results84, go_sem]) rfl ?_
    rw [HRR.out]
    exact ⟨_, rfl, Own.nil_ _ _ _ _, HB1.out⟩

set_option maxHeartbeats 1000000 in
theorem rhas_any (v : Value) (l : List Re) (c u s : Int) (w : World) (hl : l.length ≤ 1000) (hR : Rd w 5 v l.length (l.flatMap reC)) :
    Calls Try.prog 44 #[v, .int .i64 c, .int .i64 u, .int .u32 s] w fun e w' => e = .returned (.bool (hasR l c u s)) ∧ Below w.heap.size w w' := by
  have HR := Lib.hid hR
  have hrm : hasR l c u s = (findR (fairR l) c false).any (fun h => h == (c, u, s, false, false)) := rfl
  have HRM := Lib.hid hrm
  clear hR hrm
  have hfl := fairR_len l
  go_enter Try.func44, Try.ntmps44
  go_wp2_with fail
  refine (rfair_any v l w hl HR.out).mono ?_
  rintro e w1 ⟨v1, rfl, ho1, hb1⟩
  have HO1 := Lib.hid ho1
  have HB1 := Lib.hid hb1
  have hs1 := hb1.size
  obtain ⟨A1, cap1, hv1⟩ := ho1.slice_
  subst hv1
  clear ho1 hb1
  obtain ⟨n, hn⟩ : ∃ n, (fairR l).length = n := ⟨_, rfl⟩
  have HN := Lib.hid hn
  rw [hn] at hfl ⊢
  clear hn
  go_wp2_with fail
  refine (rat_any _ (fairR l) c false w1 (fairR_ris l) (rdN HN.out HO1.out.rd)).mono ?_
  rintro e w2 ⟨rfl, h2⟩
  rcases h2 with ⟨i, rfl, hi, hf, hx1, hx2, hcut, hisat⟩ | ⟨rfl, hf⟩
  · have hO2 := HO1.out.rd
    rw [HN.out] at hO2 hi
    obtain ⟨g, off, ea, _⟩ := hO2.addr (by omega)
    subst ea
    have hiI : (i : Int) < (n : Int) := by omega
    have hi0 : ¬ ((i : Int) < 0) := by omega
    have hi1 : (i : Int) ≥ 0 := by omega
    obtain ⟨c0, c1, c2, c3, c4⟩ := rd_re hO2 i (by rw [HN.out]; exact hi)
    obtain ⟨x, hx⟩ : ∃ x, at_ (fairR l) i = x := ⟨_, rfl⟩
    rw [hx] at c0 c1 c2 c3 c4 hx1 hx2 hf
    obtain ⟨x0, x1, x2, x3, x4⟩ := x
    simp only at c0 c1 c2 c3 c4 hx1 hx2
    subst hx1 hx2
    have hrv : hasR l x0 u s = ((x0, x1, x2, false, x4) == (x0, u, s, false, false)) := by rw [HRM.out, hf]; rfl
    have HRV := Lib.hid hrv
    clear hf hO2 hx hrv HRM hcut hisat
    by_cases e1 : x1 = u
    · subst e1
      by_cases e2 : x2 = s
      · subst e2
        have hrr : ((x0, x1, x2, false, x4) == (x0, x1, x2, false, false)) = !x4 := by cases x4 <;> simp
        have HRR := Lib.hid hrr
        clear hrr
        cases x4 with
        | true =>
          go_wp2_with fail
          go_ret
          exact ⟨by rw [HRV.out, HRR.out]; rfl, HB1.out⟩
        | false =>
          go_wp2_with fail
          go_ret
          exact ⟨by rw [HRV.out, HRR.out]; rfl, HB1.out⟩
      · have e2' : (x2 == s) = false := by simpa using e2
        have HRR : Hid (((x0, x1, x2, false, x4) == (x0, x1, s, false, false)) = false) := by show ((x0, x1, x2, false, x4) == (x0, x1, s, false, false)) = false; simp; intro h; exact absurd h e2
        clear e2
        go_wp2_with fail
        go_ret
        exact ⟨by rw [HRV.out, HRR.out]; rfl, HB1.out⟩
    · have e1' : (x1 == u) = false := by simpa using e1
      have HRR : Hid (((x0, x1, x2, false, x4) == (x0, u, s, false, false)) = false) := by show ((x0, x1, x2, false, x4) == (x0, u, s, false, false)) = false; simp; intro h; exact absurd h e1
      clear e1
      go_wp2_with fail
      go_ret
      exact ⟨by rw [HRV.out, HRR.out]; rfl, HB1.out⟩
  · have hrr : hasR l c u s = false := by rw [HRM.out, hf]; rfl
    have HRR := Lib.hid hrr
    clear hf hrr HRM
    go_wp2_with fail
    go_ret
    exact ⟨by rw [HRR.out]; rfl, HB1.out⟩

end Go.Proofs.Ytncgpojjibojlaa

/- replica.Spoil, Has, Begin, Commit: their contracts. -/
import Derived.Test.YtncgpojjibojlaaReOq
namespace Go.Proofs.Ytncgpojjibojlaa
open Go Go.RowKit Go.Sort

theorem flat_set {α : Type} (f : α → List Value) (k : Nat) (hk : ∀ x, (f x).length = k) (d : List α) (i j : Nat) (x' : α) (u : Value) (hi : i < d.length) (hj : j < k) (hx : f x' = (f d[i]).set j u) :
    (d.flatMap f).set (i * k + j) u = (d.set i x').flatMap f := by
  apply List.ext_getElem?
  intro p
  have h0 : 0 < k := by omega
  have hp : p / k * k + p % k = p := by rw [Nat.mul_comm]; exact Nat.div_add_mod p k
  have hr := Nat.mod_lt p h0
  generalize p / k = q at *
  generalize p % k = r at *
  subst hp
  rw [List.getElem?_set, flat_get f k hk _ _ _ hr, flat_get f k hk _ _ _ hr, List.getElem?_set, flat_len f k hk]
  have hb : i * k + j < d.length * k := by
    have : (i + 1) * k ≤ d.length * k := Nat.mul_le_mul_right _ hi
    rw [Nat.add_mul] at this
    omega
  by_cases e : i = q
  · subst e
    rw [if_pos rfl, if_pos hi]
    simp only [Option.bind_some, hx, List.getElem?_set, hk]
    by_cases e2 : j = r
    · subst e2
      rw [if_pos rfl, if_pos hb, if_pos rfl, if_pos hj]
    · rw [if_neg (by omega), if_neg e2, List.getElem?_eq_getElem hi]
      rfl
  · rw [if_neg e, if_neg]
    intro h
    apply e
    rcases Nat.lt_trichotomy i q with h1 | h1 | h1
    · have : (i + 1) * k ≤ q * k := Nat.mul_le_mul_right _ h1
      rw [Nat.add_mul] at this
      omega
    · exact h1
    · have : (q + 1) * k ≤ i * k := Nat.mul_le_mul_right _ h1
      rw [Nat.add_mul] at this
      omega

theorem spl_set {l : List Re} (h : Ris kR l) {c : Int} {i : Nat} (hi : i < l.length) (h1 : (at_ l i).1 = c) (h2 : (at_ l i).2.2.2.1 = false) : l.set i (badOf (at_ l i)) = l.map (fun z => if kR z = 2 * c then badOf z else z) := by
  have hk : kR (at_ l i) = 2 * c := by have := kR_eq (x := at_ l i) (c := c) (t := false); rw [this.2 ⟨h1, h2⟩]; simp [flI]
  apply List.ext_getElem?
  intro j
  rw [List.getElem?_set, List.getElem?_map]
  by_cases e : i = j
  · subst e
    rw [if_pos rfl, if_pos hi, at_get hi]
    simp [hk]
  · rw [if_neg e]
    rcases Nat.lt_or_ge j l.length with hj | hj
    · rw [at_get hj]
      simp only [Option.map_some]
      rw [if_neg (fun h3 => e (h.inj hi hj (hk.trans h3.symm)))]
    · rw [List.getElem?_eq_none hj]
      rfl

set_option maxHeartbeats 1000000 in
theorem spoil_any (v : Value) (l : List Re) (c : Int) (w : World) (hl : l.length ≤ 1000) (hR : Rd w 5 v l.length (l.flatMap reC)) :
    Calls Try.prog 39 #[v, .int .i64 c] w (FreshT (splR l c) w) := by
  have HR := Lib.hid hR
  have hrm : splR l c = if (findR (fairR l) c false).isSome then (0, (fairR l).map (fun z => if kR z = 2 * c then badOf z else z)) else (5, []) := rfl
  have HRM := Lib.hid hrm
  clear hR hrm
  have hfl := fairR_len l
  go_enter Try.func39, Try.ntmps39
  go_wp2_with fail
  refine (fairR_any v l w hl HR.out).mono ?_
  rintro e w1 ⟨v1, rfl, ho1, hb1⟩
  have HO1 := Lib.hid ho1
  have HB1 := Lib.hid hb1
  clear ho1 hb1
  go_wp2_with fail
  refine (findR_case _ (fairR l) c false w1 (by omega) (fairR_ris l) HO1.out.rd).mono ?_
  rintro e w2 (⟨i, rfl, hi, hf, hx1, hx2, _, _, hb2⟩ | ⟨i, hi, rfl, hf, hb2⟩)
  · have HO2 := Lib.hid (HO1.out.below hb2 (Nat.le_refl _))
    have HB2 := Lib.hid (below_then HB1.out hb2)
    have HF := Lib.hid hf
    have HSS := Lib.hid (spl_set (fairR_ris l) hi hx1 hx2)
    obtain ⟨fl, hfl2⟩ : ∃ fl, fairR l = fl := ⟨_, rfl⟩
    rw [hfl2] at hi hfl HO2 HF HSS HRM
    obtain ⟨n, hn⟩ : ∃ n, fl.length = n := ⟨_, rfl⟩
    have hO2 := HO2.out
    rw [hn] at hi hfl hO2
    have HN := Lib.hid hn
    obtain ⟨g, off, cap, hv, hnc, hcm, hbg, hgl, hbk⟩ := hO2.form (by omega)
    subst hv
    have hiI : (i : Int) < (n : Int) := by omega
    obtain ⟨c0, c1, c2, c3, c4⟩ := rd_re hO2.rd i (by rw [HN.out]; exact hi)
    have hz := hO2.frozen (by omega) (off + i * 5 + 1 + 1 + 1 + 1)
    have hset : Own (w2.setCell ⟨g, off + i * 5 + 1 + 1 + 1 + 1, none⟩ (.bool true)) w.heap.size 52 5 (.slice (some ⟨g, off, none⟩) n cap) n ((fl.set i (badOf (at_ fl i))).flatMap reC) := by
      have e3 := flat_set reC 5 reC_len fl i 4 (badOf (at_ fl i)) (.bool true) (by rw [HN.out]; exact hi) (by omega) (by rw [← at_eq (by rw [HN.out]; exact hi)]; rfl)
      rw [← e3]
      exact hO2.set_ (i * 5 + 4) (by omega) (.bool true)
    have HSET := Lib.hid hset
    have hlen : (fl.set i (badOf (at_ fl i))).length = n := by rw [List.length_set]; exact hn
    have HLEN := Lib.hid hlen
    have HB3 : Hid (Below w.heap.size w (w2.setCell ⟨g, off + i * 5 + 1 + 1 + 1 + 1, none⟩ (.bool true))) := HB2.out.setCell (show w.heap.size ≤ g by exact hbg) _
    clear hf hx1 hx2 hb2 hfl2 hn hO2 hbk hset hlen
    go_wp2_with fail
    refine bodyPost_ret (v := .tuple #[.slice (some ⟨g, off, none⟩) n cap, .int .i64 0]) (by simp [results, Try.results39, go_sem]) rfl ?_
    rw [HRM.out, HF.out, ← HSS.out]
    exact ⟨_, rfl, by simp only [Option.isSome_some, if_true]; rw [HLEN.out]; exact HSET.out, HB3.out⟩
  · have HF := Lib.hid hf
    have HB2 := Lib.hid (below_then HB1.out hb2)
    clear hf hb2
    go_wp2_with fail
    refine bodyPost_ret (v := .tuple #[.slice none 0 0, .int .i64 5]) (by simp [results, Try.results39, go_sem]) rfl ?_
    rw [HRM.out, HF.out]
    exact ⟨_, rfl, Own.nil_ _ _ _ _, HB2.out⟩

set_option maxHeartbeats 1000000 in
theorem has_any (v : Value) (l : List Re) (c u s : Int) (w : World) (hl : l.length ≤ 1000) (hR : Rd w 5 v l.length (l.flatMap reC)) :
    Calls Try.prog 32 #[v, .int .i64 c, .int .i64 u, .int .u32 s] w fun e w' => e = .returned (.bool (hasR l c u s)) ∧ Below w.heap.size w w' := by
  have HR := Lib.hid hR
  have hrm : hasR l c u s = (findR (fairR l) c false).any (fun h => h == (c, u, s, false, false)) := rfl
  have HRM := Lib.hid hrm
  clear hR hrm
  have hfl := fairR_len l
  go_enter Try.func32, Try.ntmps32
  go_wp2_with fail
  refine (fairR_any v l w hl HR.out).mono ?_
  rintro e w1 ⟨v1, rfl, ho1, hb1⟩
  have HO1 := Lib.hid ho1
  have HB1 := Lib.hid hb1
  clear ho1 hb1
  go_wp2_with fail
  refine (findR_case _ (fairR l) c false w1 (by omega) (fairR_ris l) HO1.out.rd).mono ?_
  rintro e w2 (⟨i, rfl, hi, hf, hx1, hx2, _, _, hb2⟩ | ⟨i, hi, rfl, hf, hb2⟩)
  · have HO2 := Lib.hid (HO1.out.below hb2 (Nat.le_refl _))
    have HB2 := Lib.hid (below_then HB1.out hb2)
    obtain ⟨fl, hfl2⟩ : ∃ fl, fairR l = fl := ⟨_, rfl⟩
    rw [hfl2] at hi hfl HO2 hf HRM hx1 hx2
    obtain ⟨n, hn⟩ : ∃ n, fl.length = n := ⟨_, rfl⟩
    have hO2 := HO2.out
    rw [hn] at hi hfl hO2
    have HN := Lib.hid hn
    obtain ⟨g, off, cap, hv, hnc, hcm, hbg, hgl, hbk⟩ := hO2.form (by omega)
    subst hv
    have hiI : (i : Int) < (n : Int) := by omega
    obtain ⟨c0, c1, c2, c3, c4⟩ := rd_re hO2.rd i (by rw [HN.out]; exact hi)
    obtain ⟨x, hx⟩ : ∃ x, at_ fl i = x := ⟨_, rfl⟩
    rw [hx] at c0 c1 c2 c3 c4 hx1 hx2 hf
    obtain ⟨x0, x1, x2, x3, x4⟩ := x
    simp only at c0 c1 c2 c3 c4 hx1 hx2
    subst hx1 hx2
    have hrv : hasR l x0 u s = ((x0, x1, x2, false, x4) == (x0, u, s, false, false)) := by rw [HRM.out, hf]; rfl
    have HRV := Lib.hid hrv
    clear hf hb2 hfl2 hn hO2 hbk hx hrv HRM
    by_cases e1 : x1 = u
    · subst e1
      by_cases e2 : x2 = s
      · subst e2
        have hrr : ((x0, x1, x2, false, x4) == (x0, x1, x2, false, false)) = !x4 := by cases x4 <;> simp
        have HRR := Lib.hid hrr
        clear hrr
        cases x4 with
        | true =>
          go_wp2_with fail
          go_ret
          exact ⟨by rw [HRV.out, HRR.out]; rfl, HB2.out⟩
        | false =>
          go_wp2_with fail
          go_ret
          exact ⟨by rw [HRV.out, HRR.out]; rfl, HB2.out⟩
      · have e2' : (x2 == s) = false := by simpa using e2
        have HRR : Hid (((x0, x1, x2, false, x4) == (x0, x1, s, false, false)) = false) := by show ((x0, x1, x2, false, x4) == (x0, x1, s, false, false)) = false; simp; intro h; exact absurd h e2
        clear e2
        go_wp2_with fail
        go_ret
        exact ⟨by rw [HRV.out, HRR.out]; rfl, HB2.out⟩
    · have e1' : (x1 == u) = false := by simpa using e1
      have HRR : Hid (((x0, x1, x2, false, x4) == (x0, u, s, false, false)) = false) := by show ((x0, x1, x2, false, x4) == (x0, u, s, false, false)) = false; simp; intro h; exact absurd h e1
      clear e1
      go_wp2_with fail
      go_ret
      exact ⟨by rw [HRV.out, HRR.out]; rfl, HB2.out⟩
  · have HF := Lib.hid hf
    have HB2 := Lib.hid (below_then HB1.out hb2)
    clear hf hb2
    go_wp2_with fail
    go_ret
    exact ⟨by rw [HRM.out, HF.out]; rfl, HB2.out⟩

end Go.Proofs.Ytncgpojjibojlaa

/- ServerNewer: the walk. -/
import Derived.Test.YtncgpojjibojlaaGgq
import Derived.Test.YtncgpojjibojlaaServerForgetsq
namespace Go.Proofs.Ytncgpojjibojlaa
open Go Go.RowKit Go.Sort

set_option maxHeartbeats 8000000 in
set_option maxRecDepth 1000000 in
theorem serverNewer_walk (c v u : Int) (av : Value) (a : List Nat) (bv : Value) (b : List Nat) (W : World) (hc : wfI c) (hv : wfI v) (hu : wfI u) (hDa : okB a ∧ Rd W 1 av a.length (a.flatMap byC)) (hDb : okB b ∧ Rd W 1 bv b.length (b.flatMap byC)) :
    Calls Try.prog 11 #[.int .i64 c, .int .i64 v, .int .i64 u, av, bv] W fun e w' => e = .returned (.bool true) ∧ Below W.heap.size W w' := by
  have HC := Lib.hid hc
  clear hc hv hu
  obtain ⟨hoka, hRa⟩ := hDa
  obtain ⟨Aa, capa, hvA, _, hnca⟩ := hRa.shape
  subst hvA
  obtain ⟨na, hna⟩ : ∃ n, a.length = n := ⟨_, rfl⟩
  have HNa := Lib.hid hna
  rw [hna] at hRa hnca ⊢
  have HRa : Hid (∀ w', Below W.heap.size W w' → Rd w' 1 (.slice Aa na capa) a.length (a.flatMap byC)) := fun w' hb => by rw [HNa.out]; exact hRa.below hb (Nat.le_refl _)
  have HFa : Hid (∀ G : Nat → Prop, (∀ i, G i → W.heap.size ≤ i) → OffG G (.slice Aa na capa)) := fun G hG => hRa.offB hG
  have HOa := Lib.hid hoka
  clear hoka hRa hna hnca
  obtain ⟨hokb, hRb⟩ := hDb
  obtain ⟨Ab, capb, hvB, _, hncb⟩ := hRb.shape
  subst hvB
  obtain ⟨nb, hnb⟩ : ∃ n, b.length = n := ⟨_, rfl⟩
  have HNb := Lib.hid hnb
  rw [hnb] at hRb hncb ⊢
  have HRb : Hid (∀ w', Below W.heap.size W w' → Rd w' 1 (.slice Ab nb capb) b.length (b.flatMap byC)) := fun w' hb => by rw [HNb.out]; exact hRb.below hb (Nat.le_refl _)
  have HFb : Hid (∀ G : Nat → Prop, (∀ i, G i → W.heap.size ≤ i) → OffG G (.slice Ab nb capb)) := fun G hG => hRb.offB hG
  have HOb := Lib.hid hokb
  clear hokb hRb hnb hncb
  go_enter Try.func11, Try.ntmps11
  go_wp2_with fail
  refine (awake11 W).mono ?_
  rintro e w1 ⟨rfl, hb1⟩
  have HB1 := Lib.hid hb1
  clear hb1
  go_wp2_with fail
  refine (snew_any 2 w1).mono ?_
  rintro e w2 ⟨p, G2, rfl, hs2, hg2, hb2⟩
  have HS2 := Lib.hid hs2
  have HB2 := Lib.hid (below_then HB1.out hb2)
  have HG2 : Hid (∀ i, G2 i → W.heap.size ≤ i) := fun i hi => Nat.le_trans HB1.out.size (hg2 i hi)
  clear hs2 hg2 hb2
  by_cases hc1 : c < 1
  · go_wp2_with fail
    go_ret
    exact ⟨rfl, HB2.out⟩
  by_cases hc2 : c > 1048576
  · go_wp2_with fail
    go_ret
    exact ⟨rfl, HB2.out⟩
  by_cases hv1 : v < 1
  · go_wp2_with fail
    go_ret
    exact ⟨rfl, HB2.out⟩
  by_cases hu1 : u ≤ v
  · go_wp2_with fail
    go_ret
    exact ⟨rfl, HB2.out⟩
  by_cases hu2 : u > 1073741824
  · go_wp2_with fail
    go_ret
    exact ⟨rfl, HB2.out⟩
  by_cases hla : (na : Int) > 64
  · go_wp2_with fail
    go_ret
    exact ⟨rfl, HB2.out⟩
  by_cases hlb : (nb : Int) > 64
  · go_wp2_with fail
    go_ret
    exact ⟨rfl, HB2.out⟩
  have hn : namedB c v = true := by simp [namedB]; omega
  have hn' : namedB c u = true := by simp [namedB]; omega
  have hvu : v < u := by omega
  obtain ⟨sa, hsa⟩ : ∃ x, ((sumC a : Nat) : Int) = x := ⟨_, rfl⟩
  obtain ⟨sb, hsb⟩ : ∃ x, ((sumC b : Nat) : Int) = x := ⟨_, rfl⟩
  have hqa : a.length ≤ 64 := by have := HNa.out; omega
  have hqb : b.length ≤ 64 := by have := HNb.out; omega
  have q1 := new_bgn_ok (r := 2) (u := sa) hqa hsa hn (by decide)
  rw [newS2] at q1
  have okT := ok_oneT (u := sa) hn (by omega : (1 : Int) ≤ 2) (by omega) hqa HOa.out
  have ok1 := ok_one (u := sa) hn (by omega : (1 : Int) ≤ 2) (by omega) hqa HOa.out
  have ok3 := ok_one (u := sb) hn' (by omega : (1 : Int) ≤ 2) (by omega) hqb HOb.out
  have q3 := one_bgn (r := 2) (u := sa) (a := a) hn hn' hvu (by omega) hqb hsb
  have ok2 := ok1.bgn (c := c) (v := u) (u := sb) HOb.out
  rw [q3] at ok2
  dsimp only at ok2
  have q6 := one_read ok3
  rw [if_pos hsb] at q6
  have Q1 := Lib.hid q1
  have Q2 := Lib.hid (oneT_cmt (r := 2) (u := sa) (d := a) hn)
  have Q3 := Lib.hid q3
  have Q4 := Lib.hid (two_read ok2 hsa)
  have Q5 := Lib.hid (two_cmt (r := 2) (u := sa) (u' := sb) (a := a) (b := b) hn hn' hvu)
  have Q6 := Lib.hid q6
  have Q7 := Lib.hid (one_old (r := 2) (u := sa) (u' := sb) (b := b) hn hn' hvu hqa hsa)
  have OKT := Lib.hid okT
  have OK1 := Lib.hid ok1
  have OK2 := Lib.hid ok2
  have OK3 := Lib.hid ok3
  have HSA := Lib.hid hsa
  have HSB := Lib.hid hsb
  clear hn hn' hvu hqa hqb q1 okT ok1 ok3 q3 ok2 q6 hsa hsb
  go_wp2_with fail
  refine (sum_any _ a w2 HOa.out (HRa.out _ HB2.out)).mono ?_
  rintro e w3 ⟨rfl, hb3⟩
  have HB3 := Lib.hid (HB2.out.trans (hb3.mono HB2.out.size))
  have HG3 := HG2
  have HS3 := Lib.hid (HS2.out.below_ hb3)
  clear hb3
  rw [HSA.out]
  go_wp2_with fail
  refine (sbegin_any p 0 c v sa _ a (newS 2) _ w3 HC.out (by simp [newS]) (by omega) HOa.out (HRa.out _ HB3.out) (HFa.out _ HG3.out) HS3.out).mono ?_
  rintro e w4 ⟨G4, rfl, hs4, hst4⟩
  rw [Q1.out] at hs4 ⊢
  try dsimp only at hs4 ⊢
  have HS4 := Lib.hid hs4
  have hbase4 := hst4.base HB3.out.size HG3.out
  have HB4 := Lib.hid (HB3.out.trans hbase4.1)
  have HG4 := Lib.hid hbase4.2
  clear hs4 hst4 hbase4
  go_wp2_with fail
  refine (scommit_any p 1 c v (oneT 2 c v sa a) _ w4 HC.out (by simp [oneT]) (by omega) HS4.out).mono ?_
  rintro e w5 ⟨G5, rfl, hs5, hst5⟩
  rw [Q2.out] at hs5 ⊢
  try dsimp only at hs5 ⊢
  have HS5 := Lib.hid hs5
  have hbase5 := hst5.base HB4.out.size HG4.out
  have HB5 := Lib.hid (HB4.out.trans hbase5.1)
  have HG5 := Lib.hid hbase5.2
  clear hs5 hst5 hbase5
  go_wp2_with fail
  refine (sum_any _ b w5 HOb.out (HRb.out _ HB5.out)).mono ?_
  rintro e w6 ⟨rfl, hb6⟩
  have HB6 := Lib.hid (HB5.out.trans (hb6.mono HB5.out.size))
  have HG6 := HG5
  have HS6 := Lib.hid (HS5.out.below_ hb6)
  clear hb6
  rw [HSB.out]
  go_wp2_with fail
  refine (sbegin_any p 2 c u sb _ b (one 2 c v sa a) _ w6 HC.out (by simp [one]) (by omega) HOb.out (HRb.out _ HB6.out) (HFb.out _ HG6.out) HS6.out).mono ?_
  rintro e w7 ⟨G7, rfl, hs7, hst7⟩
  rw [Q3.out] at hs7 ⊢
  try dsimp only at hs7 ⊢
  have HS7 := Lib.hid hs7
  have hbase7 := hst7.base HB6.out.size HG6.out
  have HB7 := Lib.hid (HB6.out.trans hbase7.1)
  have HG7 := Lib.hid hbase7.2
  clear hs7 hst7 hbase7
  go_wp2_with fail
  refine (sread_any p 3 c _ _ w7 HC.out OK2.out HS7.out).mono ?_
  rintro e w8 ⟨v8, rfl, ho8, hb8⟩
  rw [Q4.out] at ho8 ⊢
  try dsimp only at ho8 ⊢
  obtain ⟨A8, cap8, e8⟩ := ho8.slice_
  subst e8
  have HB8 := Lib.hid (HB7.out.trans (hb8.mono HB7.out.size))
  have HG8 := HG7
  have HS8 := Lib.hid (HS7.out.below_ hb8)
  have HX8 := Lib.hid (⟨ho8, HS7.out.off_new ho8⟩ : _ ∧ _)
  clear ho8 hb8
  go_wp2_with fail
  refine (scommit_any p 3 c u (two 2 c v sa u sb a b) _ w8 HC.out (by simp [two]) (by omega) HS8.out).mono ?_
  rintro e w9 ⟨G9, rfl, hs9, hst9⟩
  rw [Q5.out] at hs9 ⊢
  try dsimp only at hs9 ⊢
  have HS9 := Lib.hid hs9
  have hbase9 := hst9.base HB8.out.size HG8.out
  have HB9 := Lib.hid (HB8.out.trans hbase9.1)
  have HG9 := Lib.hid hbase9.2
  have HX9 := Lib.hid (hst9.own HX8.out.1 HX8.out.2)
  clear hs9 hst9 hbase9
  go_wp2_with fail
  refine (sread_any p 4 c _ _ w9 HC.out OK3.out HS9.out).mono ?_
  rintro e w10 ⟨v10, rfl, ho10, hb10⟩
  rw [Q6.out] at ho10 ⊢
  try dsimp only at ho10 ⊢
  obtain ⟨A10, cap10, e10⟩ := ho10.slice_
  subst e10
  have HB10 := Lib.hid (HB9.out.trans (hb10.mono HB9.out.size))
  have HG10 := HG9
  have HS10 := Lib.hid (HS9.out.below_ hb10)
  have HY10 := Lib.hid (⟨ho10, HS9.out.off_new ho10⟩ : _ ∧ _)
  have HX10 := Lib.hid (⟨HX9.out.1.below hb10 (Nat.le_refl _), HX9.out.2⟩ : _ ∧ _)
  clear ho10 hb10
  go_wp2_with fail
  refine (sum_any _ a w10 HOa.out (HRa.out _ HB10.out)).mono ?_
  rintro e w11 ⟨rfl, hb11⟩
  have HB11 := Lib.hid (HB10.out.trans (hb11.mono HB10.out.size))
  have HG11 := HG10
  have HS11 := Lib.hid (HS10.out.below_ hb11)
  have HX11 := Lib.hid (⟨HX10.out.1.below hb11 (Nat.le_refl _), HX10.out.2⟩ : _ ∧ _)
  have HY11 := Lib.hid (⟨HY10.out.1.below hb11 (Nat.le_refl _), HY10.out.2⟩ : _ ∧ _)
  clear hb11
  rw [HSA.out]
  go_wp2_with fail
  refine (sbegin_any p 4 c v sa _ a (one 2 c u sb b) _ w11 HC.out (by simp [one]) (by omega) HOa.out (HRa.out _ HB11.out) (HFa.out _ HG11.out) HS11.out).mono ?_
  rintro e w12 ⟨G12, rfl, hs12, hst12⟩
  rw [Q7.out] at hs12 ⊢
  try dsimp only at hs12 ⊢
  have HS12 := Lib.hid hs12
  have hbase12 := hst12.base HB11.out.size HG11.out
  have HB12 := Lib.hid (HB11.out.trans hbase12.1)
  have HG12 := Lib.hid hbase12.2
  have HX12 := Lib.hid (hst12.own HX11.out.1 HX11.out.2)
  have HY12 := Lib.hid (hst12.own HY11.out.1 HY11.out.2)
  clear hs12 hst12 hbase12
  have hcx := conv_str HX12.out.1.rd
  have hcy := conv_str HY12.out.1.rd
  have hca := conv_str (HRa.out _ HB12.out)
  have hcb := conv_str (HRb.out _ HB12.out)
  obtain ⟨ta, hta⟩ : ∃ x, strB a = x := ⟨_, rfl⟩
  obtain ⟨tb, htb⟩ : ∃ x, strB b = x := ⟨_, rfl⟩
  rw [hta] at hcx hca
  rw [htb] at hcy hcb
  clear hta htb
  go_wp2_with (first
    | (go_at_call 26; refine (slen_any p 5 _ _ w12 HS12.out).mono ?_; rintro e w13 ⟨rfl, rfl⟩; rw [show (one 2 c u sb b).l.length = 1 from rfl]))
  go_ret
  exact ⟨rfl, HB12.out⟩

end Go.Proofs.Ytncgpojjibojlaa

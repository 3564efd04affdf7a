/- ServerTurns: the walk. -/
import Derived.Test.YtncgpojjibojlaaGgq
import Derived.Test.YtncgpojjibojlaaServerForgetsq
namespace Go.Proofs.Ytncgpojjibojlaa
open Go Go.RowKit Go.Sort

set_option maxHeartbeats 8000000 in
set_option maxRecDepth 1000000 in
theorem serverTurns_walk (c v : Int) (dv : Value) (d : List Nat) (bit : Int) (W : World) (hc : wfI c) (hv : wfI v) (hDd : okB d ∧ Rd W 1 dv d.length (d.flatMap byC)) (hbit : wfI bit) :
    Calls Try.prog 13 #[.int .i64 c, .int .i64 v, dv, .int .i64 bit] W fun e w' => e = .returned (.bool true) ∧ Below W.heap.size W w' := by
  have HC := Lib.hid hc
  clear hc hv hbit
  obtain ⟨hokd, hRd⟩ := hDd
  obtain ⟨Ad, capd, hvd, _, hncd⟩ := hRd.shape
  subst hvd
  obtain ⟨nd, hnd⟩ : ∃ n, d.length = n := ⟨_, rfl⟩
  have HNd := Lib.hid hnd
  rw [hnd] at hRd hncd ⊢
  have HRd : Hid (∀ w', Below W.heap.size W w' → Rd w' 1 (.slice Ad nd capd) d.length (d.flatMap byC)) := fun w' hb => by rw [HNd.out]; exact hRd.below hb (Nat.le_refl _)
  have HFd : Hid (∀ G : Nat → Prop, (∀ i, G i → W.heap.size ≤ i) → OffG G (.slice Ad nd capd)) := fun G hG => hRd.offB hG
  have HOd := Lib.hid hokd
  clear hokd hRd hnd hncd
  go_enter Try.func13, Try.ntmps13
  go_wp2_with fail
  refine (awake11 W).mono ?_
  rintro e w1 ⟨rfl, hb1⟩
  have HB1 := Lib.hid hb1
  clear hb1
  go_wp2_with fail
  refine (snew_any 1 w1).mono ?_
  rintro e w2 ⟨p, G2, rfl, hs2, hg2, hb2⟩
  have HS2 := Lib.hid hs2
  have HB2 := Lib.hid (below_then HB1.out hb2)
  have HG2 : Hid (∀ i, G2 i → W.heap.size ≤ i) := fun i hi => Nat.le_trans HB1.out.size (hg2 i hi)
  clear hs2 hg2 hb2
  by_cases hla : (nd : Int) < 1
  · go_wp2_with fail
    go_ret
    exact ⟨rfl, HB2.out⟩
  by_cases hlb : (nd : Int) > 64
  · go_wp2_with fail
    go_ret
    exact ⟨rfl, HB2.out⟩
  obtain ⟨su, hsu⟩ : ∃ x, ((sumC d : Nat) : Int) = x := ⟨_, rfl⟩
  have HSU := Lib.hid hsu
  have HL0 : Hid (d.length = nd ∧ 1 ≤ nd ∧ nd ≤ 64) := ⟨HNd.out, by omega, by omega⟩
  clear hsu
  go_wp2_with fail
  refine (sum_any _ d w2 HOd.out (HRd.out _ HB2.out)).mono ?_
  rintro e w3 ⟨rfl, hb3⟩
  have HB3 := Lib.hid (HB2.out.trans (hb3.mono HB2.out.size))
  have HG3 := HG2
  have HS3 := Lib.hid (HS2.out.below_ hb3)
  clear hb3
  rw [HSU.out]
  go_wp2_with fail
  refine (sbegin_any p 0 c v su _ d (newS 1) _ w3 HC.out (by simp [newS]) (by omega) HOd.out (HRd.out _ HB3.out) (HFd.out _ HG3.out) HS3.out).mono ?_
  rintro e w4 ⟨G4, rfl, hs4, hst4⟩
  have hbase4 := hst4.base HB3.out.size HG3.out
  have HB4 := Lib.hid (HB3.out.trans hbase4.1)
  have HG4 := Lib.hid hbase4.2
  clear hst4 hbase4
  rcases new_bgn (r := 1) (c := c) (v := v) (u := su) (d := d) with ⟨h0, heq, hdl, hs, hnm⟩ | ⟨hne, hst⟩
  · rw [newS1] at heq
    obtain ⟨d', hd'⟩ : ∃ x, turnB d (bit.toNat % (8 * d.length)) = x := ⟨_, rfl⟩
    have hl0 := HL0.out
    have hk : bit.toNat % (8 * d.length) < 8 * d.length := Nat.mod_lt _ (by omega)
    have hlen : d'.length = d.length := by rw [← hd']; exact turnB_len _ _
    have okd' : okB d' := by rw [← hd']; exact okB_turn HOd.out hk
    have hne : d ≠ [] := by intro h; subst h; simp only [List.length_nil] at hl0; omega
    have hne' : d' ≠ [] := by intro h; rw [h] at hlen; simp only [List.length_nil] at hlen; omega
    have hsum : ((sumC d' : Nat) : Int) ≠ su := by
      rw [← hd', ← HSU.out]
      intro h
      exact turnB_sum HOd.out hk (by omega)
    have ok0 := ok_oneT (u := su) hnm (by omega : (1 : Int) ≤ 1) (by omega) hdl HOd.out
    have ok1 := ok_one (u := su) hnm (by omega : (1 : Int) ≤ 1) (by omega) hdl HOd.out
    have ok2 := ok_one (u := su) hnm (by omega : (1 : Int) ≤ 1) (by omega) (by omega : d'.length ≤ 64) okd'
    have q1 := one_spl (r := 1) (c := c) (v := v) (u := su) (bit := bit) hne
    rw [hd'] at q1
    have q2 := one_spl (r := 1) (c := c) (v := v) (u := su) (bit := bit) hne'
    rw [hlen, show turnB d' (bit.toNat % (8 * d.length)) = d by rw [← hd']; exact turnB_turn hk] at q2
    have r1 := one_read ok2
    rw [if_neg hsum] at r1
    have r2 := one_read ok1
    rw [if_pos HSU.out] at r2
    have s1 := one_scr ok2 hsum
    have HNM := Lib.hid hnm
    have Q1 := Lib.hid q1
    have Q2 := Lib.hid q2
    have R1 := Lib.hid r1
    have R2 := Lib.hid r2
    have B1 := Lib.hid (one_bad ok2 hsum)
    have S1 := Lib.hid s1
    have R3 := Lib.hid (read_nil s1 c)
    have OK0 := Lib.hid ok0
    have OK1 := Lib.hid ok1
    have OK2 := Lib.hid ok2
    have OK3 := Lib.hid ok2.scr
    have Y1 : Hid (((one 1 c v su d).f c false).length ≤ 1000 ∧ okB ((one 1 c v su d).f c false)) := ⟨by have := (ok1.bytes c false).1; omega, (ok1.bytes c false).2⟩
    have Y2 : Hid (((one 1 c v su d').f c false).length ≤ 1000 ∧ okB ((one 1 c v su d').f c false)) := ⟨by have := (ok2.bytes c false).1; omega, (ok2.bytes c false).2⟩
    rw [heq] at hs4 ⊢
    dsimp only at hs4 ⊢
    have HS4 := Lib.hid hs4
    clear hs4 heq h0 hdl hs hnm hl0 hk hlen okd' hne hne' hsum ok0 ok1 ok2 q1 q2 r1 r2 s1 hd'
    go_wp2_with fail
    refine (scommit_any p 1 c v (oneT 1 c v su d) _ w4 HC.out (by simp [oneT]) (by omega) HS4.out).mono ?_
    rintro e w5 ⟨G5, rfl, hs5, hst5⟩
    rw [oneT_cmt HNM.out] at hs5 ⊢
    try dsimp only at hs5 ⊢
    have HS5 := Lib.hid hs5
    have hbase5 := hst5.base HB4.out.size HG4.out
    have HB5 := Lib.hid (HB4.out.trans hbase5.1)
    have HG5 := Lib.hid hbase5.2
    clear hs5 hst5 hbase5
    go_wp2_with fail
    refine (sspoil_any p 2 c bit _ _ w5 HC.out Y1.out HS5.out).mono ?_
    rintro e w6 ⟨G6, rfl, hs6, hst6⟩
    rw [Q1.out] at hs6 ⊢
    try dsimp only at hs6 ⊢
    have HS6 := Lib.hid hs6
    have hbase6 := hst6.base HB5.out.size HG5.out
    have HB6 := Lib.hid (HB5.out.trans hbase6.1)
    have HG6 := Lib.hid hbase6.2
    clear hs6 hst6 hbase6
    go_wp2_with fail
    refine (sread_any p 2 c _ _ w6 HC.out OK2.out HS6.out).mono ?_
    rintro e w7 ⟨v7, rfl, ho7, hb7⟩
    rw [R1.out] at ho7 ⊢
    try dsimp only at ho7 ⊢
    obtain ⟨A7, cap7, e7⟩ := ho7.slice_
    subst e7
    have HB7 := Lib.hid (HB6.out.trans (hb7.mono HB6.out.size))
    have HG7 := HG6
    have HS7 := Lib.hid (HS6.out.below_ hb7)
    clear ho7 hb7
    go_wp2_with fail
    refine (sspoil_any p 2 c bit _ _ w7 HC.out Y2.out HS7.out).mono ?_
    rintro e w8 ⟨G8, rfl, hs8, hst8⟩
    rw [Q2.out] at hs8
    try rw [Q2.out]
    try dsimp only at hs8
    have HS8 := Lib.hid hs8
    have hbase8 := hst8.base HB7.out.size HG7.out
    have HB8 := Lib.hid (HB7.out.trans hbase8.1)
    have HG8 := Lib.hid hbase8.2
    clear hs8 hst8 hbase8
    go_wp2_with fail
    refine (sread_any p 2 c _ _ w8 HC.out OK1.out HS8.out).mono ?_
    rintro e w9 ⟨v9, rfl, ho9, hb9⟩
    rw [R2.out] at ho9 ⊢
    try dsimp only at ho9 ⊢
    obtain ⟨A9, cap9, e9⟩ := ho9.slice_
    subst e9
    have HB9 := Lib.hid (HB8.out.trans (hb9.mono HB8.out.size))
    have HG9 := HG8
    have HS9 := Lib.hid (HS8.out.below_ hb9)
    have HD9 := Lib.hid (⟨ho9, HS8.out.off_new ho9⟩ : _ ∧ _)
    clear ho9 hb9
    go_wp2_with fail
    refine (sspoil_any p 2 c bit _ _ w9 HC.out Y1.out HS9.out).mono ?_
    rintro e w10 ⟨G10, rfl, hs10, hst10⟩
    rw [Q1.out] at hs10
    try rw [Q1.out]
    try dsimp only at hs10
    have HS10 := Lib.hid hs10
    have hbase10 := hst10.base HB9.out.size HG9.out
    have HB10 := Lib.hid (HB9.out.trans hbase10.1)
    have HG10 := Lib.hid hbase10.2
    have HD10 := Lib.hid (hst10.own HD9.out.1 HD9.out.2)
    clear hs10 hst10 hbase10
    go_wp2_with fail
    refine (sscrub_any p 2 _ _ w10 OK2.out HS10.out).mono ?_
    rintro e w11 ⟨gv, G11, rfl, ho11, hx11, hs11, hst11⟩
    rw [B1.out] at ho11
    simp only [List.length_cons, List.length_nil, Nat.zero_add, List.flatMap_cons, List.flatMap_nil, List.append_nil] at ho11
    obtain ⟨gb, go, gc, hgv, _⟩ := ho11.form (by omega)
    subst hgv
    have HS11 := Lib.hid hs11
    have hbase11 := hst11.base HB10.out.size HG10.out
    have HB11 := Lib.hid (HB10.out.trans hbase11.1)
    have HG11 := Lib.hid hbase11.2
    have HD11 := Lib.hid (hst11.own HD10.out.1 HD10.out.2)
    have HL11 := Lib.hid (⟨ho11, hx11⟩ : _ ∧ _)
    clear hs11 hst11 hbase11 ho11 hx11
    go_wp2_with fail
    refine (sread_any p 2 c _ _ w11 HC.out OK3.out HS11.out).mono ?_
    rintro e w12 ⟨v12, rfl, ho12, hb12⟩
    rw [R3.out] at ho12 ⊢
    try dsimp only at ho12 ⊢
    obtain ⟨A12, cap12, e12⟩ := ho12.slice_
    subst e12
    have HB12 := Lib.hid (HB11.out.trans (hb12.mono HB11.out.size))
    have HG12 := HG11
    have HS12 := Lib.hid (HS11.out.below_ hb12)
    have HD12 := Lib.hid (⟨HD11.out.1.below hb12 (Nat.le_refl _), HD11.out.2⟩ : _ ∧ _)
    have HL12 := Lib.hid (⟨HL11.out.1.below hb12 (Nat.le_refl _), HL11.out.2⟩ : _ ∧ _)
    clear ho12 hb12
    have hcl := HL12.out.1.cells 0 (.int .i64 c) rfl
    rw [Nat.add_zero] at hcl
    have hcx := conv_str HD12.out.1.rd
    have hca := conv_str (HRd.out _ HB12.out)
    obtain ⟨ta, hta⟩ : ∃ x, strB d = x := ⟨_, rfl⟩
    rw [hta] at hcx hca
    clear hta
    go_wp2_with (first
      | (go_at_call 26; refine (slen_any p 2 _ _ w12 HS12.out).mono ?_; rintro e w13 ⟨rfl, rfl⟩; rw [S1.out]; simp only [List.length_nil]))
    go_ret
    exact ⟨rfl, HB12.out⟩
  · rw [hst] at hs4
    have HS4 := Lib.hid hs4
    obtain ⟨e0, he0⟩ : ∃ x, (bgnS (newS 1) c v su d).1 = x := ⟨_, rfl⟩
    rw [he0] at hne ⊢
    have hne' : (e0 != 0) = true := by simpa using hne
    clear hs4 hst he0 hne
    go_wp2_with fail
    refine (sreport_any p 1 _ _ w4 (by simp [newS]) HS4.out).mono ?_
    rintro e w5 ⟨v5, rfl, ho5, hb5⟩
    rw [show rstR (newS 1).l = [] from rfl] at ho5
    obtain ⟨A5, cap5, e5⟩ := ho5.slice_
    subst e5
    have HB5 := Lib.hid (HB4.out.trans (hb5.mono HB4.out.size))
    clear ho5 hb5
    simp only [List.length_nil]
    go_wp2_with fail
    go_ret
    exact ⟨rfl, HB5.out⟩

end Go.Proofs.Ytncgpojjibojlaa

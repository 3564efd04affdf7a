/- server.Spoil, Restart: their contracts. -/
import Derived.Test.YtncgpojjibojlaaSrv4q
namespace Go.Proofs.Ytncgpojjibojlaa
open Go Go.RowKit Go.Sort

/-- One row written. -/
theorem SrvV.setB {w w' : World} {G : Nat → Prop} {p k : Nat} {s : Sv} {lv : Value} {mb : Nat} {F : Int → Bool → Value} (h : SrvV w G p k s lv mb F) {c : Int} {t : Bool} (hc : wfI c) {g : Nat} (hg : blk (F c t) = some g) {d : List Nat}
    (ho : Own w' 0 5 1 (F c t) d.length (d.flatMap byC)) (hf : Fr (fun i => i = g) w w') : SrvV w' G p k ⟨s.room, s.l, upF s.f c t d⟩ lv mb F :=
  ⟨(hf.block p h.box.lt (fun e => h.ne_fp hc g hg e.symm)).trans h.box, h.own.fr hf (fun q hq e => h.ne_fl hc g hg (by rw [hq, show q = g from e])), h.map.fr hf (fun e => h.ne_fm hc g hg e.symm), fun d' u hd => by
    by_cases e : d' = c ∧ u = t
    · obtain ⟨rfl, rfl⟩ := e
      show Own w' 0 5 1 (F d' u) (upF s.f d' u d d' u).length ((upF s.f d' u d d' u).flatMap byC)
      rw [upF_same]
      exact ho
    · show Own w' 0 5 1 (F d' u) (upF s.f c t d d' u).length ((upF s.f c t d d' u).flatMap byC)
      rw [upF_other _ _ e]
      exact (h.row d' u hd).fr hf (fun q hq e2 => h.sep c t d' u hc hd (fun e3 => e ⟨e3.1.symm, e3.2.symm⟩) g hg (by rw [hq, show q = g from e2])), h.sep, h.gp, h.gm, h.gl, h.gf, fun i hi => Nat.lt_of_lt_of_le (h.lt i hi) hf.size⟩
theorem spoil_fin {w : World} {G : Nat → Prop} {p k : Nat} {s : Sv} {lv : Value} {mb : Nat} {F : Int → Bool → Value} (h : SrvV w G p k s lv mb F) {c bit : Int} (hc : wfI c) {g off n cap m nq : Nat} (hv : F c false = .slice (some ⟨g, off, none⟩) n cap) (hn : (s.f c false).length = n) (h0 : 0 < n) (hm : m < 8 * n) (hb : bit.toNat % (8 * n) = m) (hcap : 0 < cap)
    {x : Value} (hx : x = .int .u8 ((at_ (s.f c false) (m / 8) ^^^ 2 ^ (m % 8) : Nat) : Int)) {o : Nat} (ho : o = off + m / 8) :
    SvE G p k (splS s c bit).2 (.int .i64 (splS s c bit).1) w (.returned (.int .i64 0)) ((w.drewN nq).setCell ⟨g, o, none⟩ x) := by
  subst hx ho
  have hne : s.f c false ≠ [] := fun e => by rw [e] at hn; simp at hn; omega
  have hs : splS s c bit = (0, ⟨s.room, s.l, upF s.f c false (turnB (s.f c false) m)⟩) := by
    unfold splS
    rw [if_neg hne, hn, hb]
  rw [hs]
  have hg : blk (F c false) = some g := by
    rw [hv]
    obtain ⟨c', rfl⟩ : ∃ c', cap = c' + 1 := ⟨cap - 1, by omega⟩
    rfl
  have hown := ((h.row c false hc).drewN nq)
  rw [hv, hn] at hown
  have h1 := hown.set_ (m / 8) (by omega) (.int .u8 ((at_ (s.f c false) (m / 8) ^^^ 2 ^ (m % 8) : Nat) : Int))
  have h2 := flat_setL byC 1 byC_len (by omega) (s.f c false) (m / 8) (at_ (s.f c false) (m / 8) ^^^ 2 ^ (m % 8)) (by omega)
  simp only [byC, setL, Nat.mul_one] at h2
  rw [h2] at h1
  have hf : Fr (fun i => i = g) w ((w.drewN nq).setCell ⟨g, off + m / 8, none⟩ (.int .u8 ((at_ (s.f c false) (m / 8) ^^^ 2 ^ (m % 8) : Nat) : Int))) := (Fr.drewN w nq _).thenSet _ _ (.inl rfl)
  refine ⟨G, rfl, ⟨lv, mb, F, h.setB hc hg ?_ hf⟩, hf.weak (fun i hi => .inl (by rw [show i = g from hi]; exact h.gf c false hc g hg)), fun i hi => .inl hi⟩
  rw [turnB_len, hn, hv]
  exact h1

set_option maxHeartbeats 2000000 in
theorem sspoil_any (p k : Nat) (c bit : Int) (s : Sv) (G : Nat → Prop) (w : World) (hc : wfI c) (hb64 : (s.f c false).length ≤ 1000 ∧ okB (s.f c false)) (h : SrvAt w G p k s) :
    Calls Try.prog 48 #[.pointer (some ⟨p, 0, none⟩), .int .i64 c, .int .i64 bit] w (SvE G p k (splS s c bit).2 (.int .i64 (splS s c bit).1) w) := by
  obtain ⟨lv, mb, F, h⟩ := h
  obtain ⟨q0, q1, q2⟩ := h.box.three
  have hrow := h.row c false hc
  obtain ⟨A, cap, hv⟩ := hrow.slice_
  have HC := Lib.hid hc
  have HM := Lib.hid h.map
  have HH := Lib.hid h
  have HROW := Lib.hid hrow
  have HV := Lib.hid hv
  obtain ⟨n, hn⟩ : ∃ n, (s.f c false).length = n := ⟨_, rfl⟩
  have hsh := hrow.rd.shape
  rw [hn] at hb64 hv
  have HN := Lib.hid hn
  have HB := Lib.hid hb64.2
  have hn1000 := hb64.1
  clear h hc hrow hn hb64 hsh HV
  have HV := Lib.hid hv
  by_cases hn0 : n = 0
  · subst hn0
    go_enter Try.func48, Try.ntmps48
    clear hv
    go_wp2_with (at_lookup; refine wpList_lookup_mapV rfl _ _ rfl rfl HM.out c false HC.out rfl ?_; rw [HV.out])
    go_ret
    have : splS s c bit = (5, s) := by unfold splS; rw [if_pos (List.eq_nil_of_length_eq_zero HN.out)]
    rw [this]
    exact ⟨G, rfl, ⟨_, _, _, HH.out⟩, StepG.refl _ _⟩
  · have hn' : ((n : Int) == 0) = false := by simpa using hn0
    have hno0 : 0 < n := by omega
    obtain ⟨g, off, cap', hv2, hnc, hcm, _, hgl, hblk⟩ := HROW.out.form (by rw [HN.out]; exact hno0)
    rw [HV.out, HN.out] at hv2
    injection hv2 with e1 e2 e3
    subst e1 e3
    have hcap0 : 0 < cap := by have := HN.out; omega
    clear hv hnc hcm e2 hgl hblk
    have hown : Own w 0 5 1 (.slice (some ⟨g, off, none⟩) n cap) n ((s.f c false).flatMap byC) := by
      have := HROW.out
      rw [HV.out, HN.out] at this
      exact this
    have HOWN := Lib.hid hown
    have hrd := hown.rd
    have zf := hown.frozen hcap0
    clear hown
    by_cases hbit : bit < 0
    · have c0 := rd_byte (l := s.f c false) hrd 0 (by rw [HN.out]; exact hno0)
      have z0 := zf off
      obtain ⟨b, hb⟩ : ∃ b, at_ (s.f c false) 0 = b := ⟨_, rfl⟩
      rw [hb, Nat.add_zero] at c0
      have hb256 : b < 256 := by rw [← hb]; exact HB.out _ (at_mem (by rw [HN.out]; exact hno0))
      have HBB := Lib.hid hb
      clear hb hrd zf
      go_enter Try.func48, Try.ntmps48
      go_wp2_with (at_lookup; refine wpList_lookup_mapV rfl _ _ rfl rfl HM.out c false HC.out rfl ?_; rw [HV.out])
      refine wp_region_quiet_tail (C := fun w' => ∃ n, w' = World.drewN _ n) 10 (by kernel_rfl) (by kernel_rfl) ⟨1, rfl⟩ ?_
      simp only [List.take_succ_cons, List.take_zero, List.drop_succ_cons, List.drop_zero]
      repeat (go_big_quiet_step (fail))
      refine wpQuiet_nil ?_
      intro _ hw'
      obtain ⟨nq, hw''⟩ := hw'
      subst hw''
      go_wp2_with fail
      go_ret
      refine spoil_fin (m := 0) HH.out HC.out HV.out HN.out hno0 (by omega) (by rw [show bit.toNat = 0 by omega]; exact Nat.zero_mod _) hcap0 ?_ rfl
      have := u8_xor_nat b 1 hb256 (by omega)
      rw [show (0 : Nat) / 8 = 0 from rfl, HBB.out]
      first | (rw [show (2 : Nat) ^ (0 % 8) = 1 from rfl, ← this]; rfl) | trace_state
    · obtain ⟨bn, rfl⟩ : ∃ b : Nat, bit = (b : Int) := ⟨bit.toNat, by omega⟩
      obtain ⟨m, hm⟩ : ∃ m, bn % (8 * n) = m := ⟨_, rfl⟩
      have hmlt : m < 8 * n := by rw [← hm]; exact Nat.mod_lt _ (by omega)
      have hmI : (bn : Int) % (8 * (n : Int)) = (m : Int) := by rw [← hm]; push_cast; rfl
      have HMM := Lib.hid hm
      obtain ⟨i, hi⟩ : ∃ i, m / 8 = i := ⟨_, rfl⟩
      obtain ⟨j, hj⟩ : ∃ j, m % 8 = j := ⟨_, rfl⟩
      have hin : i < n := by omega
      have hj8 : j < 8 := by omega
      have hiI : (m : Int) / 8 = (i : Int) := by omega
      have hjI : (m : Int) % 8 = (j : Int) := by omega
      have HI := Lib.hid hi
      have HJ := Lib.hid hj
      have hinI : (i : Int) < (n : Int) := by omega
      have c0 := rd_byte (l := s.f c false) hrd i (by rw [HN.out]; exact hin)
      have z0 := zf (off + i)
      obtain ⟨b, hb⟩ : ∃ b, at_ (s.f c false) i = b := ⟨_, rfl⟩
      rw [hb] at c0
      have hb256 : b < 256 := by rw [← hb]; exact HB.out _ (at_mem (by rw [HN.out]; exact hin))
      have HBB := Lib.hid hb
      clear hm hi hj hb hrd zf
      go_enter Try.func48, Try.ntmps48
      go_wp2_with (at_lookup; refine wpList_lookup_mapV rfl _ _ rfl rfl HM.out c false HC.out rfl ?_; rw [HV.out])
      refine wp_region_quiet_tail (C := fun w' => ∃ n, w' = World.drewN _ n) 10 (by kernel_rfl) (by kernel_rfl) ⟨1, rfl⟩ ?_
      simp only [List.take_succ_cons, List.take_zero, List.drop_succ_cons, List.drop_zero]
      repeat (go_big_quiet_step (fail))
      refine wpQuiet_nil ?_
      intro _ hw'
      obtain ⟨nq, hw''⟩ := hw'
      subst hw''
      go_wp2_with fail
      go_ret
      refine spoil_fin HH.out HC.out HV.out HN.out hno0 hmlt (by rw [Int.toNat_natCast]; exact HMM.out) hcap0 ?_ (by rw [HI.out])
      rw [HI.out, HJ.out, HBB.out]
      have e1 : (2 : Int) ^ j % 256 = ((2 ^ j : Nat) : Int) := by
        have : j = 0 ∨ j = 1 ∨ j = 2 ∨ j = 3 ∨ j = 4 ∨ j = 5 ∨ j = 6 ∨ j = 7 := by omega
        rcases this with rfl | rfl | rfl | rfl | rfl | rfl | rfl | rfl <;> rfl
      rw [e1, u8_xor_nat b (2 ^ j) hb256 (by
        have : 2 ^ j < 2 ^ 8 := Nat.pow_lt_pow_right (by omega) (by omega)
        omega)]

set_option maxHeartbeats 2000000 in
theorem srestart_any (p k : Nat) (s : Sv) (G : Nat → Prop) (w : World) (hok : OkS s) (h : SrvAt w G p k s) :
    Calls Try.prog 46 #[.pointer (some ⟨p, 0, none⟩)] w (SvE G p k (rebS s) (.tuple #[]) w) := by
  obtain ⟨lv, mb, F, h⟩ := h
  obtain ⟨q0, q1, q2⟩ := h.box.three
  obtain ⟨A, cap, hv⟩ := h.own.slice_
  subst hv
  have hl := hok.l16
  have HH := Lib.hid h
  have HRD : Hid (∀ w', Fr (fun i => i = p ∨ i = mb) w w' → Rd w' 5 (.slice A s.l.length cap) s.l.length (s.l.flatMap reC)) := fun w' hf =>
    (h.own.fr hf (fun g hg e => e.elim (h.ne_lp g hg) (h.ne_lm g hg))).rd
  obtain ⟨n, hn⟩ : ∃ n, s.l.length = n := ⟨_, rfl⟩
  have HN := Lib.hid hn
  have HOK := Lib.hid hok
  rw [hn] at hl q1
  clear h hn hok q0 q2
  go_enter Try.func46, Try.ntmps46
  go_wp2_with fail
  go_loopw [9] (fun s9 wr => ∃ j : Nat, j ≤ n ∧ s9 = .int .i64 j ∧ (∃ G' lv' F', SrvV wr G' p k ((s.l.take j).foldl rebF s) lv' mb F' ∧ ∀ i, G' i → G i ∨ w.heap.size ≤ i) ∧ Fr (fun i => i = p ∨ i = mb) w wr) (fun s9 _ => n - (intOf s9).toNat)
  case atStart => exact ⟨0, Nat.zero_le _, rfl, ⟨G, _, F, HH.out, fun i hi => .inl hi⟩, Fr.refl _ _⟩
  case round =>
    obtain ⟨j, hj, rfl, ⟨G', lv', F', hs', hg'⟩, hfr⟩ := hrel
    have HS' := Lib.hid hs'
    have HG' := Lib.hid hg'
    have HFR := Lib.hid hfr
    clear hs' hg'
    by_cases hlt : j < n
    · have hltI : (j : Int) < (n : Int) := by omega
      have hR1 := HRD.out _ hfr
      rw [HN.out] at hR1
      obtain ⟨b, off, hA, hbl⟩ := hR1.addr (by omega)
      subst hA
      obtain ⟨c0, c1, c2, c3, c4⟩ := rd_re hR1 j (by rw [HN.out]; exact hlt)
      have htk := take_at (l := s.l) (i := j) (by rw [HN.out]; exact hlt)
      have hmem := at_mem (l := s.l) (i := j) (by rw [HN.out]; exact hlt)
      obtain ⟨x, hx⟩ : ∃ x, at_ s.l j = x := ⟨_, rfl⟩
      rw [hx] at c0 c1 c2 c3 c4 htk hmem
      have hnm := HOK.out.named hmem
      obtain ⟨x0, x1, x2, x3, x4⟩ := x
      simp only at c0 c1 c2 c3 c4 hnm
      have hfo : (s.l.take (j + 1)).foldl rebF s = rebF ((s.l.take j).foldl rebF s) (x0, x1, x2, x3, x4) := by rw [htk, List.foldl_append]; rfl
      have HFO := Lib.hid hfo
      have hal := below_one wr (.cells #[.int .i64 x0, .int .i64 x1, .int .u32 x2, .bool x3, .bool x4] 52)
      have HS2 := Lib.hid (HS'.out.below' hal)
      have HF2 : Hid (Fr (fun i => i = p ∨ i = mb) w (wr.alloc (.cells #[.int .i64 x0, .int .i64 x1, .int .u32 x2, .bool x3, .bool x4] 52))) := HFR.out.thenBelow hal
      have HW : Hid (wfI x0) := wf_i64 (by omega) (by omega)
      have HL : Hid (((s.l.take j).foldl rebF s).l.length ≤ 900) := by
        have := (HOK.out.rebL (s.l.take j)).l16
        show _ ≤ 900
        omega
      clear hal hx hfo htk hmem hR1 hfr
      cases x3 with
      | false =>
        go_wp2_with fail
        go_roundw
        case rel => exact ⟨j + 1, by omega, by go_num, ⟨G', lv', F', by rw [HFO.out]; exact HS2.out, HG'.out⟩, HF2.out⟩
        case measure => simp [intOf]; omega
      | true =>
        go_wp2_with fail
        refine (sabort_fine p k x0 _ G' lv' mb F' _ HW.out HL.out HS2.out).mono ?_
        rintro e w3 ⟨G3, lv3, F3, rfl, h3, hf3, hg3⟩
        have HS3 := Lib.hid h3
        have HF3 := Lib.hid (HF2.out.trans hf3 (fun _ h => .inl h))
        have HG3 : Hid (∀ i, G3 i → G i ∨ w.heap.size ≤ i) := fun i hi => by
          rcases hg3 i hi with h1 | h1
          · exact HG'.out i h1
          · exact .inr (Nat.le_trans HF2.out.size h1)
        clear h3 hf3 hg3
        go_wp2_with fail
        go_roundw
        case rel => exact ⟨j + 1, by omega, by go_num, ⟨G3, lv3, F3, by rw [HFO.out]; exact HS3.out, HG3.out⟩, HF3.out⟩
        case measure => simp [intOf]; omega
    · obtain rfl : j = n := by omega
      go_wp2_with fail
      go_end0
      have ht : s.l.take j = s.l := by rw [← HN.out, List.take_length]
      have h5 := HS'.out
      rw [ht] at h5
      exact ⟨G', rfl, ⟨lv', mb, F', h5⟩, HFR.out.weak (fun i hi => .inl (hi.elim (fun e => by rw [e]; exact HH.out.gp) (fun e => by rw [e]; exact HH.out.gm))), HG'.out⟩

end Go.Proofs.Ytncgpojjibojlaa

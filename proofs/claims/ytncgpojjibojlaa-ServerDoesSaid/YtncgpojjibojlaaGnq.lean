/- The document's server: Spoil: the contract. -/
import Derived.Test.YtncgpojjibojlaaGmq
import Derived.Test.YtncgpojjibojlaaSrv5q
import Derived.Test.YtncgpojjibojlaaGkq
namespace Go.Proofs.Ytncgpojjibojlaa
open Go Go.RowKit Go.Sort

def splQ (r : Sv) (c bit : Int) : Int × Sv := if (findR r.l c false).isNone = true ∨ r.f c false = [] then (5, r) else (0, ⟨r.room, r.l, upF r.f c false (turnB (r.f c false) (bit.toNat % (8 * (r.f c false).length)))⟩)
theorem Own.turn {w : World} {base g off n cap m : Nat} {d : List Nat} (h : Own w base 5 1 (.slice (some ⟨g, off, none⟩) n cap) n (d.flatMap byC)) (hn : d.length = n) (hm : m < 8 * n)
    {x : Value} (hx : x = .int .u8 ((at_ d (m / 8) ^^^ 2 ^ (m % 8) : Nat) : Int)) {o : Nat} (ho : o = off + m / 8) :
    Own (w.setCell ⟨g, o, none⟩ x) base 5 1 (.slice (some ⟨g, off, none⟩) n cap) (turnB d m).length ((turnB d m).flatMap byC) := by
  subst hx ho
  have h1 := h.set_ (m / 8) (by omega) (.int .u8 ((at_ d (m / 8) ^^^ 2 ^ (m % 8) : Nat) : Int))
  have h2 := flat_setL byC 1 byC_len (by omega) d (m / 8) (at_ d (m / 8) ^^^ 2 ^ (m % 8)) (by omega)
  simp only [byC, setL, Nat.mul_one] at h2
  rw [h2] at h1
  rw [turnB_len, hn]
  exact h1

theorem RsAt.short {w : World} {H : Nat → Prop} {q k : Nat} {r : Sv} (h : RsAt w H q k r) (c : Int) (t : Bool) : okB (r.f c t) ∧ (r.f c t).length ≤ 1000 := by
  obtain ⟨lv, pv, ps, h⟩ := h
  rw [← h.get c t]
  unfold getP
  cases hf : ps.find? (fun x => x.c == c && x.t == t) with
  | none => exact ⟨okB_nil, by simp⟩
  | some x => exact (h.row x (List.mem_of_find?_eq_some hf)).2

set_option maxHeartbeats 8000000 in
set_option maxRecDepth 100000 in
theorem rspoil_s (q k : Nat) (c bit : Int) (r : Sv) (H : Nat → Prop) (w : World) (hk : k < 1000) (h : RsAt w H q k r) :
    Calls Try.prog 57 #[.pointer (some ⟨q, 0, none⟩), .int .i64 c, .int .i64 bit] w (RsE H q (k + 1) (splQ r c bit).2 (.int .i64 (splQ r c bit).1) w) := by
  have HLT : Hid (∀ i, H i → i < w.heap.size) := by
    obtain ⟨_, _, _, h'⟩ := h
    exact Lib.hid (fun i hi => h'.lt i hi)
  have HH := Lib.hid h
  clear h
  go_enter Try.func57, Try.ntmps57
  go_wp2_with fail
  refine (rheld_any q k c r H w HH.out).mono ?_
  rintro e w1 ⟨rfl, hb1⟩
  have HB1 := Lib.hid hb1
  have HS1 := Lib.hid (HH.out.below_ hb1)
  obtain ⟨oh, hoh⟩ : ∃ o, heldR r.l c = o := ⟨_, rfl⟩
  rw [hoh]
  have HOH : Hid (findR r.l c false = oh) := by rw [← hoh]; exact Lib.hid (heldR_find _ _).symm
  clear hb1 hoh
  cases oh with
  | none =>
    simp only [optR, Option.getD_none, reV, reZ, Option.isSome_none]
    have HQ : Hid (splQ r c bit = (5, r)) := by unfold splQ; rw [HOH.out]; exact Lib.hid (if_pos (.inl rfl))
    have hal := below_one w1 (.cells #[.int .i64 0, .int .i64 0, .int .u32 0, .bool false, .bool false] 52)
    have HAL := Lib.hid (below_then HB1.out hal)
    have HSA := Lib.hid (HS1.out.below_ hal)
    clear hal
    go_wp2_with (first
      | (go_at_call 65; refine (rdata_any q k c false r H _ (by omega) HSA.out).mono ?_; rintro e w3 ⟨rfl, hokd, hld, v3, rfl, ho3, hx3⟩; have HD3 := Lib.hid (⟨hokd, hld, ho3⟩ : _ ∧ _ ∧ _); clear hokd hld ho3 hx3)
      | (at_builtin; refine wpList_app_by rfl (.const (.slice none 0 0)) (.tmp 19) rfl rfl _ (r.f c false) rfl HD3.out.2.2.rd (by have := HD3.out.2.1; omega) ?_; intro v5 w5 hown5 hb5; obtain ⟨A5, cap5, e5⟩ := hown5.slice_; subst e5; have HB5 := Lib.hid hb5; clear hown5 hb5))
    go_ret
    rw [HQ.out]
    have hb : Below w.heap.size w w5 := HAL.out.trans (HB5.out.mono HAL.out.size)
    exact ⟨H, rfl, RsAt.up (HSA.out.below_ HB5.out), StepG.below hb⟩
  | some x =>
    obtain ⟨x0, x1, x2, x3, x4⟩ := x
    simp only [optR, Option.getD_some, reV, Option.isSome_some]
    have hal := below_one w1 (.cells #[.int .i64 x0, .int .i64 x1, .int .u32 x2, .bool x3, .bool x4] 52)
    have HAL := Lib.hid (below_then HB1.out hal)
    have HSA := Lib.hid (HS1.out.below_ hal)
    obtain ⟨n, hn⟩ : ∃ n, (r.f c false).length = n := ⟨_, rfl⟩
    have HN := Lib.hid hn
    have hn1k : n ≤ 1000 := by have := (HH.out.short c false).2; omega
    clear hal
    by_cases hn0 : n = 0
    · subst hn0
      have HQ : Hid (splQ r c bit = (5, r)) := by unfold splQ; exact Lib.hid (if_pos (.inr (List.eq_nil_of_length_eq_zero hn)))
      clear hn
      go_wp2_with (first
        | (go_at_call 65; refine (rdata_any q k c false r H _ (by omega) HSA.out).mono ?_; rintro e w3 ⟨rfl, hokd, hld, v3, rfl, ho3, hx3⟩; have HD3 := Lib.hid (⟨hokd, hld, ho3⟩ : _ ∧ _ ∧ _); clear hokd hld ho3 hx3)
        | (at_builtin; refine wpList_app_by rfl (.const (.slice none 0 0)) (.tmp 19) rfl rfl _ (r.f c false) rfl HD3.out.2.2.rd (by have := HD3.out.2.1; omega) ?_; intro v5 w5 hown5 hb5; rw [HN.out] at hown5; obtain ⟨A5, cap5, e5⟩ := hown5.slice_; subst e5; have HB5 := Lib.hid hb5; clear hown5 hb5))
      go_ret
      rw [HQ.out]
      have hb : Below w.heap.size w w5 := HAL.out.trans (HB5.out.mono HAL.out.size)
      exact ⟨H, rfl, RsAt.up (HSA.out.below_ HB5.out), StepG.below hb⟩
    have hn' : ((n : Int) == 0) = false := by simpa using hn0
    have hno0 : 0 < n := by omega
    obtain ⟨m, hm⟩ : ∃ m, bit.toNat % (8 * n) = m := ⟨_, rfl⟩
    have hmlt : m < 8 * n := by rw [← hm]; exact Nat.mod_lt _ (by omega)
    have HQ : Hid (splQ r c bit = (0, ⟨r.room, r.l, upF r.f c false (turnB (r.f c false) m)⟩)) := by
      unfold splQ
      rw [HOH.out, if_neg (by rintro (h | h); · cases h
                              · rw [h] at hn; simp at hn; omega), hn, hm]
      exact Lib.hid rfl
    have HM := Lib.hid hm
    clear hm hn
    obtain ⟨i, hi⟩ : ∃ i, m / 8 = i := ⟨_, rfl⟩
    obtain ⟨j, hj⟩ : ∃ j, m % 8 = j := ⟨_, rfl⟩
    have hin : i < n := by omega
    have hj8 : j < 8 := by omega
    have hiI : (m : Int) / 8 = (i : Int) := by omega
    have hjI : (m : Int) % 8 = (j : Int) := by omega
    have HI := Lib.hid hi
    have HJ := Lib.hid hj
    have hinI : (i : Int) < (n : Int) := by omega
    obtain ⟨b, hb⟩ : ∃ b, at_ (r.f c false) i = b := ⟨_, rfl⟩
    have HBB := Lib.hid hb
    clear hi hj hb
    by_cases hbit : bit > 0
    · obtain ⟨bn, rfl⟩ : ∃ bn : Nat, bit = (bn : Int) := ⟨bit.toNat, by omega⟩
      have hmI : (bn : Int) % (8 * (n : Int)) = (m : Int) := by
        rw [← HM.out, Int.toNat_natCast]
        push_cast
        rfl
      have HE1 : Hid ((2 : Int) ^ j % 256 = ((2 ^ j : Nat) : Int)) := by
        have : j = 0 ∨ j = 1 ∨ j = 2 ∨ j = 3 ∨ j = 4 ∨ j = 5 ∨ j = 6 ∨ j = 7 := by omega
        rcases this with rfl | rfl | rfl | rfl | rfl | rfl | rfl | rfl <;> exact Lib.hid rfl
      have HE2 : Hid (2 ^ j < 256) := by
        have : 2 ^ j < 2 ^ 8 := Nat.pow_lt_pow_right (by omega) (by omega)
        exact Lib.hid (by omega)
      go_wp2_with (first
        | (go_at_call 65; refine (rdata_any q k c false r H _ (by omega) HSA.out).mono ?_; rintro e w3 ⟨rfl, hokd, hld, v3, rfl, ho3, hx3⟩; have HD3 := Lib.hid (⟨hokd, hld, ho3⟩ : _ ∧ _ ∧ _); clear hokd hld ho3 hx3)
        | (at_builtin; refine wpList_app_by rfl (.const (.slice none 0 0)) (.tmp 19) rfl rfl _ (r.f c false) rfl HD3.out.2.2.rd (by have := HD3.out.2.1; omega) ?_; intro v5 w5 hown5 hb5; rw [HN.out] at hown5; obtain ⟨g, off, cap, hv5, hncap, _, hg1, hg2, _⟩ := hown5.form (by omega); subst hv5; have HO5 := Lib.hid hown5; have HB5 := Lib.hid hb5; have HGG := Lib.hid (⟨hg1, hg2⟩ : _ ∧ _); have c0 := rd_byte (l := r.f c false) hown5.rd i (by rw [HN.out]; exact hin); rw [HBB.out] at c0; have z0 := hown5.frozen (by omega) (off + i); have hb256 : b < 256 := (by rw [← HBB.out]; exact HD3.out.1 _ (at_mem (by rw [HN.out]; exact hin))); clear hown5 hb5 hg1 hg2)
        | (go_at_call 89; refine Calls.mono (rset_any q k c false _ (turnB (r.f c false) m) r H _ (by omega) ?hR (okB_turn HD3.out.1 (by rw [HN.out]; exact hmlt)) (by rw [turnB_len]; exact HD3.out.2.1) ?hS) ?_; (case hR => exact (Own.turn (m := m) HO5.out HN.out hmlt (by rw [HI.out, HJ.out, HBB.out, HE1.out, u8_xor_nat b (2 ^ j) hb256 HE2.out]) (by first | (rw [HI.out]) | (rw [show (0 : Nat) / 8 = 0 from rfl, Nat.add_zero]) | rfl)).rd); (case hS => exact (HSA.out.below_ HB5.out).fr (Fr.setCell w5 _ _ (fun i => i = g) rfl) (fun i hi e => by (have h1 := HLT.out i hi; have h2 := HGG.out.1; have h3 := HAL.out.size; have h4 : i = g := e; omega))); rintro e w7 ⟨H7, rfl, hs7, hst7⟩; have HS7 := Lib.hid hs7; have HST7 := Lib.hid hst7; clear hs7 hst7 c0 z0))
      go_ret
      rw [HQ.out]
      exact ⟨H7, rfl, HS7.out, StepG.trans (B := H) ⟨(Fr.of_below (HAL.out.trans (HB5.out.mono HAL.out.size))).thenSet _ _ (.inr (by have h2 := HGG.out.1; have h3 := HAL.out.size; show w.heap.size ≤ g; omega)), fun _ h => .inl h⟩ HST7.out⟩
    · have hm0 : m = 0 := by rw [← HM.out, show bit.toNat = 0 by omega]; exact Nat.zero_mod _
      have hi0 : i = 0 := by omega
      have hj0 : j = 0 := by omega
      subst hm0 hi0 hj0
      have HE2 := Lib.hid (u8_xor_nat b 1)
      go_wp2_with (first
        | (go_at_call 65; refine (rdata_any q k c false r H _ (by omega) HSA.out).mono ?_; rintro e w3 ⟨rfl, hokd, hld, v3, rfl, ho3, hx3⟩; have HD3 := Lib.hid (⟨hokd, hld, ho3⟩ : _ ∧ _ ∧ _); clear hokd hld ho3 hx3)
        | (at_builtin; refine wpList_app_by rfl (.const (.slice none 0 0)) (.tmp 19) rfl rfl _ (r.f c false) rfl HD3.out.2.2.rd (by have := HD3.out.2.1; omega) ?_; intro v5 w5 hown5 hb5; rw [HN.out] at hown5; obtain ⟨g, off, cap, hv5, hncap, _, hg1, hg2, _⟩ := hown5.form (by omega); subst hv5; have HO5 := Lib.hid hown5; have HB5 := Lib.hid hb5; have HGG := Lib.hid (⟨hg1, hg2⟩ : _ ∧ _); have c0 := rd_byte (l := r.f c false) hown5.rd 0 (by rw [HN.out]; exact hin); rw [HBB.out] at c0; rw [Nat.add_zero] at c0; have z0 := hown5.frozen (by omega) (off); have hb256 : b < 256 := (by rw [← HBB.out]; exact HD3.out.1 _ (at_mem (by rw [HN.out]; exact hin))); clear hown5 hb5 hg1 hg2)
        | (go_at_call 89; refine Calls.mono (rset_any q k c false _ (turnB (r.f c false) 0) r H _ (by omega) ?hR (okB_turn HD3.out.1 (by rw [HN.out]; exact hmlt)) (by rw [turnB_len]; exact HD3.out.2.1) ?hS) ?_; (case hR => exact (Own.turn (m := 0) HO5.out HN.out hmlt (by rw [show (0 : Nat) / 8 = 0 from rfl, HBB.out]; have hq := HE2.out hb256 (by omega); rw [show (2 : Nat) ^ (0 % 8) = 1 from rfl, ← hq]; rfl) (by first | (rw [HI.out]) | (rw [show (0 : Nat) / 8 = 0 from rfl, Nat.add_zero]) | rfl)).rd); (case hS => exact (HSA.out.below_ HB5.out).fr (Fr.setCell w5 _ _ (fun i => i = g) rfl) (fun i hi e => by (have h1 := HLT.out i hi; have h2 := HGG.out.1; have h3 := HAL.out.size; have h4 : i = g := e; omega))); rintro e w7 ⟨H7, rfl, hs7, hst7⟩; have HS7 := Lib.hid hs7; have HST7 := Lib.hid hst7; clear hs7 hst7 c0 z0))
      go_ret
      rw [HQ.out]
      exact ⟨H7, rfl, HS7.out, StepG.trans (B := H) ⟨(Fr.of_below (HAL.out.trans (HB5.out.mono HAL.out.size))).thenSet _ _ (.inr (by have h2 := HGG.out.1; have h3 := HAL.out.size; show w.heap.size ≤ g; omega)), fun _ h => .inl h⟩ HST7.out⟩

end Go.Proofs.Ytncgpojjibojlaa

/- The document's server: Scrub: the contract. -/
namespace Go.Proofs.Ytncgpojjibojlaa
open Go Go.RowKit Go.Sort

def badQ (r : Sv) (x : Re) : Bool := spoiltS r x && !x.2.2.2.1
def goneQ (r : Sv) : List Int := (r.l.filter (badQ r)).map (·.1)
def scrQ (r : Sv) : Sv := ⟨r.room, r.l.filter (fun x => !badQ r x), r.f⟩
def RScrE (H : Nat → Prop) (q k : Nat) (r : Sv) (w : World) (e : Ending) (w' : World) : Prop :=
  ∃ gv H', e = .returned gv ∧ Own w' w.heap.size 3 1 gv (goneQ r).length ((goneQ r).flatMap inC) ∧ RsAt w' H' q k (scrQ r) ∧ StepG H H' w w'

set_option maxHeartbeats 8000000 in
set_option maxRecDepth 100000 in
theorem rscrub_s (q k : Nat) (r : Sv) (H : Nat → Prop) (w : World) (hk : k ≤ 1000) (hl : r.l.length ≤ 900) (h : RsAt w H q k r) :
    Calls Try.prog 58 #[.pointer (some ⟨q, 0, none⟩)] w (RScrE H q k r w) := by
  obtain ⟨lv, pv, ps, h⟩ := h
  have HH := Lib.hid h
  have HAT : Hid (RsAt w H q k r) := ⟨lv, pv, ps, h⟩
  obtain ⟨A, cap, hv⟩ := h.own.slice_
  subst hv
  obtain ⟨n, hn⟩ : ∃ n, r.l.length = n := ⟨_, rfl⟩
  have HN := Lib.hid hn
  have HL : Hid (Rd w 5 (.slice A n cap) n (r.l.flatMap reC)) := by have := h.own.rd; rw [hn] at this; exact this
  have HBQ : Hid (Bx w q 46 [.int .i64 r.room, .slice A n cap, pv]) := by have := h.box; rw [hn] at this; exact this
  rw [hn] at hl
  clear h hn
  go_enter Try.func58, Try.ntmps58
  go_wp2_with fail
  go_loopw [3, 4, 5] (fun s3 s4 s5 wr => ∃ i : Nat, i ≤ n ∧ s5 = .int .i64 i ∧ Own wr w.heap.size 52 5 s3 ((r.l.take i).filter (fun x => !badQ r x)).length (((r.l.take i).filter (fun x => !badQ r x)).flatMap reC) ∧
    Own wr w.heap.size 3 1 s4 (((r.l.take i).filter (badQ r)).map (·.1)).length ((((r.l.take i).filter (badQ r)).map (·.1)).flatMap inC) ∧ Below w.heap.size w wr) (fun _ _ s5 _ => n - (intOf s5).toNat)
  case atStart => exact ⟨0, Nat.zero_le _, rfl, by rw [List.take_zero]; exact Own.nil_ _ _ _ _, by rw [List.take_zero]; exact Own.nil_ _ _ _ _, Below.refl _ _⟩
  case round =>
    obtain ⟨i, hi, rfl, hown, hgon, hbel⟩ := hrel
    obtain ⟨A3, cap3, hv3⟩ := hown.slice_
    subst hv3
    obtain ⟨A4, cap4, hv4⟩ := hgon.slice_
    subst hv4
    have HO := Lib.hid hown
    have HG := Lib.hid hgon
    have HB := Lib.hid hbel
    have HSR := Lib.hid hbel.size
    have hql : ((r.l.take i).filter (fun x => !badQ r x)).length ≤ i := Nat.le_trans (List.length_filter_le _ _) (by rw [List.length_take]; omega)
    have hgl : (((r.l.take i).filter (badQ r)).map (·.1)).length ≤ i := by rw [List.length_map]; exact Nat.le_trans (List.length_filter_le _ _) (by rw [List.length_take]; omega)
    obtain ⟨lo, hlo⟩ : ∃ l, (r.l.take i).filter (fun x => !badQ r x) = l := ⟨_, rfl⟩
    obtain ⟨lg, hlg⟩ : ∃ l, ((r.l.take i).filter (badQ r)).map (·.1) = l := ⟨_, rfl⟩
    have HLO := Lib.hid hlo
    have HLG := Lib.hid hlg
    rw [hlo] at hql HO ⊢
    rw [hlg] at hgl HG ⊢
    have HBQr := Lib.hid (HBQ.out.below' HB.out)
    obtain ⟨u0, u1, u2⟩ := HBQr.out.three
    clear hown hgon hbel hlo hlg u0 u2
    by_cases hlt : i < n
    · have hltI : (i : Int) < (n : Int) := by omega
      have hR1 := HL.out.below HB.out (Nat.le_refl _)
      obtain ⟨b, off, hA, hbl⟩ := hR1.addr (by omega)
      subst hA
      obtain ⟨c0, c1, c2, c3, c4⟩ := rd_re hR1 i (by rw [HN.out]; exact hlt)
      obtain ⟨x, hx⟩ : ∃ x, at_ r.l i = x := ⟨_, rfl⟩
      rw [hx] at c0 c1 c2 c3 c4
      have htk := take_at (l := r.l) (i := i) (by rw [HN.out]; exact hlt)
      rw [hx] at htk
      have hs1 := filt_snoc (fun x => !badQ r x) (r.l.take i) x
      have hs2 := filt_snoc (badQ r) (r.l.take i) x
      rw [← htk] at hs1 hs2
      rw [HLO.out] at hs1
      have hs2 := congrArg (List.map (fun z : Re => z.1)) hs2
      rw [List.map_append, HLG.out] at hs2
      have HS1 := Lib.hid hs1
      have HS2 := Lib.hid hs2
      clear hx hR1 htk hs1 hs2 hbl
      obtain ⟨x0, x1, x2, x3, x4⟩ := x
      dsimp only at c0 c1 c2 c3 c4
      have hal := below_one wr (.cells #[.int .i64 x0, .int .i64 x1, .int .u32 x2, .bool x3, .bool x4] 52)
      have hbx := Bx.new wr 52 [.int .i64 x0, .int .i64 x1, .int .u32 x2, .bool x3, .bool x4]
      change Bx (wr.alloc (.cells #[.int .i64 x0, .int .i64 x1, .int .u32 x2, .bool x3, .bool x4] 52)) _ _ _ at hbx
      obtain ⟨q0, q1, q2, q3, q4⟩ := hbx.five
      have HBX := Lib.hid hbx
      have HAL := Lib.hid hal
      have HSA := Lib.hid (HAT.out.below_ (HB.out.trans (hal.mono HSR.out)))
      clear hal hbx
      go_wp2_with fail
      refine (rspoilt_any q k (x0, x1, x2, x3, x4) r H _ hk HSA.out).mono ?_
      rintro e w2 ⟨rfl, hb2⟩
      have HB2 : Hid (Below wr.heap.size wr w2) := below_then HAL.out hb2
      have HBW : Hid (Below w.heap.size w w2) := HB.out.trans (HB2.out.mono HSR.out)
      have HBX2 := Lib.hid (HBX.out.below' hb2)
      have HO2 := Lib.hid (HO.out.below HB2.out (Nat.le_refl _))
      have HG2 := Lib.hid (HG.out.below HB2.out (Nat.le_refl _))
      have HSW : Hid (w.heap.size ≤ w2.heap.size) := HBW.out.size
      obtain ⟨B, hB⟩ : ∃ B, wr.heap.size = B := ⟨_, rfl⟩
      rw [hB] at HBX2 ⊢
      obtain ⟨q0, q1, q2, q3, q4⟩ := HBX2.out.five
      obtain ⟨sp, hsp⟩ : ∃ b, spoiltS r (x0, x1, x2, x3, x4) = b := ⟨_, rfl⟩
      have HSP := Lib.hid hsp
      rw [hsp]
      clear hb2 hB hsp c0 c1 c2 c3 c4 HBX HAL u1
      cases sp with
      | true =>
        cases x3 with
        | false =>
          have HT1 : Hid ((r.l.take (i + 1)).filter (fun x => !badQ r x) = lo) := by have := HS1.out; unfold badQ at this ⊢; simp only [HSP.out] at this; exact Lib.hid (by simpa using this)
          have HT2 : Hid (((r.l.take (i + 1)).filter (badQ r)).map (·.1) = lg ++ [x0]) := by have := HS2.out; unfold badQ at this ⊢; simp only [HSP.out] at this; exact Lib.hid (by simpa using this)
          clear HS1 HS2
          go_wp2_with (at_builtin; refine wpList_app_in rfl (.tmp 34) (.tmp 37) rfl w.heap.size (.slice A4 lg.length cap4) lg rfl (HG2.out.alloc _) (.slice (some ⟨w2.heap.size, 0, none⟩) 1 1) [x0] rfl (rd_one (t := 3) (heap_alloc_new _ _) rfl) (by simp; omega) (by simp; have := HSW.out; omega) ?_; intro v4 w4 hown4 hfr4 hb4; have hq4 := (HO2.out.alloc (.cells #[.int .i64 x0] 3)).fr hfr4 (fun g hg h2 => (by obtain ⟨ca, ha⟩ := HO2.out.blk_elem hg; obtain ⟨cb, hb⟩ := HG2.out.blk_elem h2; rw [ha] at hb; cases hb)); have HO4 := Lib.hid hown4; have HQ4 := Lib.hid hq4; have HB4 := Lib.hid hb4; clear hown4 hfr4 hb4 hq4)
          go_roundw
          case rel => exact ⟨i + 1, by omega, by go_num, by rw [HT1.out]; exact HQ4.out, by rw [HT2.out]; exact HO4.out, (HBW.out.alloc HSW.out _).trans HB4.out⟩
          case measure => simp [intOf]; omega
        | true =>
          have HT1 : Hid ((r.l.take (i + 1)).filter (fun x => !badQ r x) = lo ++ [(x0, x1, x2, true, x4)]) := by have := HS1.out; unfold badQ at this ⊢; simp only [HSP.out] at this; exact Lib.hid (by simpa using this)
          have HT2 : Hid (((r.l.take (i + 1)).filter (badQ r)).map (·.1) = lg) := by have := HS2.out; unfold badQ at this ⊢; simp only [HSP.out] at this; exact Lib.hid (by simpa using this)
          clear HS1 HS2
          go_wp2_with (at_builtin; refine wpList_app_re rfl (.tmp 39) (.tmp 41) rfl w.heap.size (.slice A3 lo.length cap3) lo rfl (HO2.out.alloc _) (.slice (some ⟨w2.heap.size, 0, none⟩) 1 1) [(x0, x1, x2, true, x4)] rfl (rd_re1 _ (Bx.new w2 52 (reC (x0, x1, x2, true, x4)))) (by simp; omega) (by simp; have := HSW.out; omega) ?_; intro v4 w4 hown4 hfr4 _ hb4; have hq4 := (HG2.out.alloc (.cells #[.int .i64 x0, .int .i64 x1, .int .u32 x2, .bool true, .bool x4] 52)).fr hfr4 (fun g hg h2 => (by obtain ⟨ca, ha⟩ := HG2.out.blk_elem hg; obtain ⟨cb, hb⟩ := HO2.out.blk_elem h2; rw [ha] at hb; cases hb)); have HO4 := Lib.hid hown4; have HQ4 := Lib.hid hq4; have HB4 := Lib.hid hb4; clear hown4 hfr4 hb4 hq4)
          go_roundw
          case rel => exact ⟨i + 1, by omega, by go_num, by rw [HT1.out]; exact HO4.out, by rw [HT2.out]; exact HQ4.out, (HBW.out.alloc HSW.out _).trans HB4.out⟩
          case measure => simp [intOf]; omega
      | false =>
        have HT1 : Hid ((r.l.take (i + 1)).filter (fun x => !badQ r x) = lo ++ [(x0, x1, x2, x3, x4)]) := by have := HS1.out; unfold badQ at this ⊢; simp only [HSP.out] at this; exact Lib.hid (by simpa using this)
        have HT2 : Hid (((r.l.take (i + 1)).filter (badQ r)).map (·.1) = lg) := by have := HS2.out; unfold badQ at this ⊢; simp only [HSP.out] at this; exact Lib.hid (by simpa using this)
        clear HS1 HS2
        go_wp2_with (at_builtin; refine wpList_app_re rfl (.tmp 39) (.tmp 41) rfl w.heap.size (.slice A3 lo.length cap3) lo rfl (HO2.out.alloc _) (.slice (some ⟨w2.heap.size, 0, none⟩) 1 1) [(x0, x1, x2, x3, x4)] rfl (rd_re1 _ (Bx.new w2 52 (reC (x0, x1, x2, x3, x4)))) (by simp; omega) (by simp; have := HSW.out; omega) ?_; intro v4 w4 hown4 hfr4 _ hb4; have hq4 := (HG2.out.alloc (.cells #[.int .i64 x0, .int .i64 x1, .int .u32 x2, .bool x3, .bool x4] 52)).fr hfr4 (fun g hg h2 => (by obtain ⟨ca, ha⟩ := HG2.out.blk_elem hg; obtain ⟨cb, hb⟩ := HO2.out.blk_elem h2; rw [ha] at hb; cases hb)); have HO4 := Lib.hid hown4; have HQ4 := Lib.hid hq4; have HB4 := Lib.hid hb4; clear hown4 hfr4 hb4 hq4)
        go_roundw
        case rel => exact ⟨i + 1, by omega, by go_num, by rw [HT1.out]; exact HO4.out, by rw [HT2.out]; exact HQ4.out, (HBW.out.alloc HSW.out _).trans HB4.out⟩
        case measure => simp [intOf]; omega
    · obtain rfl : i = n := by omega
      have HQ1 : Hid (r.l.filter (fun x => !badQ r x) = lo) := by have := HLO.out; rw [← HN.out, List.take_length] at this; exact Lib.hid this
      have HQ2 : Hid (goneQ r = lg) := by have := HLG.out; rw [← HN.out, List.take_length] at this; exact Lib.hid this
      have z := HBQr.out.frozen
      have HNL : Hid (lo.length = lo.length) := Lib.hid rfl
      go_wp2_with fail
      go_ret
      have hs := HH.out.stepL HB.out (l := lo) (A := A3) (n := lo.length) (cap := cap3) rfl HO.out
      refine ⟨_, _, rfl, ?_, ?_, hs.2⟩
      · rw [HQ2.out]
        exact HG.out.fr (Fr.setCell wr _ _ (fun j => j = q) rfl) (HG.out.neBx HBQr.out (by decide))
      · unfold scrQ
        rw [HQ1.out]
        exact hs.1

end Go.Proofs.Ytncgpojjibojlaa

/- suturelaw11.did: the contract. -/
namespace Go.Proofs.Ytncgpojjibojlaa
open Go Go.RowKit Go.Sort

def didQ (s : Sv) (o : Op11) : Int × Sv :=
  if o.kind = 0 then bgnS s o.chunk o.version (sumO o) o.d
  else if o.kind = 1 then cmtQ s o.chunk o.version
  else if o.kind = 2 then (0, ⟨s.room, abtR s.l o.chunk, s.f⟩)
  else if o.kind = 3 then rmvQ s o.chunk
  else if o.kind = 4 then splQ s o.chunk o.bit
  else if o.kind = 5 then (0, scrQ s)
  else if o.kind = 6 then (0, ⟨s.room, rstR s.l, s.f⟩)
  else (0, ⟨s.room, [], s.f⟩)
def goneO (s : Sv) (o : Op11) : List Int := if o.kind = 5 then goneQ s else []
def RDoE (G : Nat → Prop) (p k : Nat) (s : Sv) (o : Op11) (w : World) (e : Ending) (w' : World) : Prop :=
  ∃ v G', e = .returned (.tuple #[v, .int .i64 (didQ s o).1]) ∧ Own w' w.heap.size 3 1 v (goneO s o).length ((goneO s o).flatMap inC) ∧ RsAt w' G' p (k + 1) (didQ s o).2 ∧ StepG G G' w w'
theorem RDoE.plain {G G' : Nat → Prop} {p k : Nat} {s s' : Sv} {o : Op11} {w w1 w' : World} {e0 : Int} (h : didQ s o = (e0, s')) (h5 : o.kind ≠ 5) (hs : RsAt w' G' p (k + 1) s') (hb : Below w.heap.size w w1) (hst : StepG G G' w1 w') :
    RDoE G p k s o w (.returned (.tuple #[.slice none 0 0, .int .i64 e0])) w' := by
  have hg : goneO s o = [] := by unfold goneO; rw [if_neg h5]
  refine ⟨.slice none 0 0, G', by rw [h], ?_, by rw [h]; exact hs, (StepG.below hb).trans hst⟩
  rw [hg]
  exact Own.nil_ _ _ _ _

set_option maxHeartbeats 4000000 in
set_option maxRecDepth 100000 in
theorem sdid_any (p k : Nat) (o : Op11) (s : Sv) (G : Nat → Prop) (w : World) (hO : okO w o) (hoff : OffG G o.dv) (hk : k < 1000) (hl16 : s.l.length ≤ 16) (h : RsAt w G p k s) :
    Calls Try.prog 20 #[.pointer (some ⟨p, 0, none⟩), .agg #[.int .i64 o.kind, .int .i64 o.chunk, .int .i64 o.version, .int .i64 o.bit, .int .u32 o.sum, .bool o.right, o.dv]] w (RDoE G p k s o w) := by
  obtain ⟨kk, c, v, bt, sm, rt, dv, d⟩ := o
  obtain ⟨hc, hokd, hR⟩ := hO
  dsimp only at hc hokd hR hoff ⊢
  have hlt : ∀ i, G i → i < w.heap.size := by
    obtain ⟨_, _, _, h'⟩ := h
    exact fun i hi => h'.lt i hi
  have hal := below_one w (.cells #[.int .i64 kk, .int .i64 c, .int .i64 v, .int .i64 bt, .int .u32 sm, .bool rt, dv] 36)
  have hbx := Bx.new w 36 [.int .i64 kk, .int .i64 c, .int .i64 v, .int .i64 bt, .int .u32 sm, .bool rt, dv]
  change Bx (w.alloc (.cells #[.int .i64 kk, .int .i64 c, .int .i64 v, .int .i64 bt, .int .u32 sm, .bool rt, dv] 36)) _ _ _ at hbx
  obtain ⟨q0, q1, q2, q3, q4, q5, q6⟩ := hbx.sevn
  have HC := Lib.hid hc
  have HOKD := Lib.hid hokd
  have HAL := Lib.hid hal
  have HR := Lib.hid (hR.below hal (Nat.le_refl _))
  have HS := Lib.hid (h.below_ hal)
  have HBX := Lib.hid hbx
  have HOFF := Lib.hid hoff
  have HLT := Lib.hid hlt
  have HL := Lib.hid hl16
  clear hc hokd hR hoff h hal hbx hlt hl16
  by_cases h0 : kk = 0
  · have e0 : didQ s ⟨kk, c, v, bt, sm, rt, dv, d⟩ = bgnS s c v (sumO ⟨kk, c, v, bt, sm, rt, dv, d⟩) d := by unfold didQ; simp [h0]
    subst h0
    obtain ⟨su, hsu⟩ : ∃ x, sumO ⟨0, c, v, bt, sm, rt, dv, d⟩ = x := ⟨_, rfl⟩
    have SU := sumo_any 0 c v bt sm rt dv d (w.alloc (.cells #[.int .i64 0, .int .i64 c, .int .i64 v, .int .i64 bt, .int .u32 sm, .bool rt, dv] 36)).drew HOKD.out HR.out.drew
    rw [hsu] at e0 SU
    have E := Lib.hid e0
    have HSU := Lib.hid SU
    have h5 := Lib.hid (by omega : (0 : Int) ≠ 5)
    have HGB : Hid (¬ G w.heap.size) := fun hg => by have := HLT.out _ hg; omega
    have m2d := (HBX.out.below' (Below.refl (w.alloc (.cells #[.int .i64 0, .int .i64 c, .int .i64 v, .int .i64 bt, .int .u32 sm, .bool rt, dv] 36)).heap.size (w.alloc (.cells #[.int .i64 0, .int .i64 c, .int .i64 v, .int .i64 bt, .int .u32 sm, .bool rt, dv] 36))).drew).sevn
    have HBXD := Lib.hid (HBX.out.below' (Below.refl (w.alloc (.cells #[.int .i64 0, .int .i64 c, .int .i64 v, .int .i64 bt, .int .u32 sm, .bool rt, dv] 36)).heap.size (w.alloc (.cells #[.int .i64 0, .int .i64 c, .int .i64 v, .int .i64 bt, .int .u32 sm, .bool rt, dv] 36))).drew)
    have HSD := Lib.hid (HS.out.below_ (Below.refl (w.alloc (.cells #[.int .i64 0, .int .i64 c, .int .i64 v, .int .i64 bt, .int .u32 sm, .bool rt, dv] 36)).heap.size (w.alloc (.cells #[.int .i64 0, .int .i64 c, .int .i64 v, .int .i64 bt, .int .u32 sm, .bool rt, dv] 36))).drew)
    clear e0 SU hsu
    go_enter Try.func20, Try.ntmps20
    go_wp2_with fail
    go_region_held3 (fun w' => w'.cell? ⟨w.heap.size, 0, none⟩ = some (.int .i64 0) ∧ w'.cell? ⟨w.heap.size, 1, none⟩ = some (.int .i64 c) ∧ w'.cell? ⟨w.heap.size, 2, none⟩ = some (.int .i64 v) ∧ w'.cell? ⟨w.heap.size, 3, none⟩ = some (.int .i64 bt) ∧ w'.cell? ⟨w.heap.size, 4, none⟩ = some (.int .u32 sm) ∧ w'.cell? ⟨w.heap.size, 5, none⟩ = some (.bool rt) ∧ w'.cell? ⟨w.heap.size, 6, none⟩ = some dv) (first | exact n7 | exact n6 | exact m2d | go_keep)
      (first
        | (go_at_call 50; refine HSU.out.mono ?_; rintro e w3 ⟨rfl, hb3⟩; have n6 := (HBXD.out.below' hb3).sevn; have HB3 := Lib.hid hb3; clear hb3)
        | (go_at_call 53; refine (rbegin_s p k c v su dv d s G w3 (by have := HL.out; omega) hk HOKD.out (HR.out.drew.below HB3.out (Nat.le_refl _)) HOFF.out (HSD.out.below_ HB3.out)).mono ?_; rintro e w4 ⟨G4, rfl, hs4, hst4⟩; have n7 := ((HBXD.out.below' HB3.out).fr hst4.1 HGB.out).sevn; have HS4 := Lib.hid hs4; have HST4 := Lib.hid hst4; obtain ⟨r, hr⟩ : ∃ x, (bgnS s c v su d).1 = x := ⟨_, rfl⟩; rw [hr]; have HRR := Lib.hid hr; clear hs4 hst4 hr))
    clear q0 q1 q2 q3 q4 q5 q6 m2d n6 n7
    go_wp2_with fail
    refine bodyPost_ret (v := .tuple #[.slice none 0 0, .int .i64 r]) (by simp [results, Try.results20, go_sem]) rfl (RDoE.plain (E.out.trans (Prod.ext HRR.out rfl)) h5.out HS4.out (below_then HAL.out ((Below.refl (w.alloc (.cells #[.int .i64 0, .int .i64 c, .int .i64 v, .int .i64 bt, .int .u32 sm, .bool rt, dv] 36)).heap.size (w.alloc (.cells #[.int .i64 0, .int .i64 c, .int .i64 v, .int .i64 bt, .int .u32 sm, .bool rt, dv] 36))).drew.trans HB3.out)) HST4.out)
  by_cases h1 : kk = 1
  · have e1 : didQ s ⟨kk, c, v, bt, sm, rt, dv, d⟩ = cmtQ s c v := by unfold didQ; simp [h1]
    have E := Lib.hid e1
    clear e1
    subst h1
    have h5 := Lib.hid (by omega : ((1 : Int)) ≠ 5)
    go_enter Try.func20, Try.ntmps20
    go_wp2_with fail
    refine (rcommit_s p k c v s G _ (by have := HL.out; omega) hk HS.out).mono ?_
    rintro e w2 ⟨G2, rfl, hs2, hst2⟩
    have HS2 := Lib.hid hs2
    have HST2 := Lib.hid hst2
    obtain ⟨r, hr⟩ : ∃ x, (cmtQ s c v).1 = x := ⟨_, rfl⟩
    rw [hr]
    have HRR := Lib.hid hr
    clear hs2 hst2 q0 q1 q2 q3 q4 q5 q6 hr
    go_wp2_with fail
    refine bodyPost_ret (v := .tuple #[.slice none 0 0, .int .i64 r]) (by simp [results, Try.results20, go_sem]) rfl (RDoE.plain (E.out.trans (Prod.ext HRR.out rfl)) h5.out HS2.out HAL.out HST2.out)
  by_cases h2 : kk = 2
  · have e2 : didQ s ⟨kk, c, v, bt, sm, rt, dv, d⟩ = (0, ⟨s.room, abtR s.l c, s.f⟩) := by unfold didQ; simp [h2]
    have E := Lib.hid e2
    clear e2
    subst h2
    have h5 := Lib.hid (by omega : ((2 : Int)) ≠ 5)
    go_enter Try.func20, Try.ntmps20
    go_wp2_with fail
    refine (rabort_s p k c s G _ (by have := HL.out; omega) HS.out).mono ?_
    rintro e w2 ⟨G2, rfl, hs2, hst2⟩
    have HS2 := Lib.hid hs2
    have HST2 := Lib.hid hst2
    
    
    
    clear hs2 hst2 q0 q1 q2 q3 q4 q5 q6
    go_wp2_with fail
    refine bodyPost_ret (v := .tuple #[.slice none 0 0, .int .i64 0]) (by simp [results, Try.results20, go_sem]) rfl (RDoE.plain (E.out) h5.out HS2.out.up HAL.out HST2.out)
  by_cases h3 : kk = 3
  · have e3 : didQ s ⟨kk, c, v, bt, sm, rt, dv, d⟩ = rmvQ s c := by unfold didQ; simp [h3]
    have E := Lib.hid e3
    clear e3
    subst h3
    have h5 := Lib.hid (by omega : ((3 : Int)) ≠ 5)
    go_enter Try.func20, Try.ntmps20
    go_wp2_with fail
    refine (rremove_s p k c s G _ (by have := HL.out; omega) HS.out).mono ?_
    rintro e w2 ⟨G2, rfl, hs2, hst2⟩
    have HS2 := Lib.hid hs2
    have HST2 := Lib.hid hst2
    obtain ⟨r, hr⟩ : ∃ x, (rmvQ s c).1 = x := ⟨_, rfl⟩
    rw [hr]
    have HRR := Lib.hid hr
    clear hs2 hst2 q0 q1 q2 q3 q4 q5 q6 hr
    go_wp2_with fail
    refine bodyPost_ret (v := .tuple #[.slice none 0 0, .int .i64 r]) (by simp [results, Try.results20, go_sem]) rfl (RDoE.plain (E.out.trans (Prod.ext HRR.out rfl)) h5.out HS2.out.up HAL.out HST2.out)
  by_cases h4 : kk = 4
  · have e4 : didQ s ⟨kk, c, v, bt, sm, rt, dv, d⟩ = splQ s c bt := by unfold didQ; simp [h4]
    have E := Lib.hid e4
    clear e4
    subst h4
    have h5 := Lib.hid (by omega : ((4 : Int)) ≠ 5)
    go_enter Try.func20, Try.ntmps20
    go_wp2_with fail
    refine (rspoil_s p k c bt s G _ hk HS.out).mono ?_
    rintro e w2 ⟨G2, rfl, hs2, hst2⟩
    have HS2 := Lib.hid hs2
    have HST2 := Lib.hid hst2
    obtain ⟨r, hr⟩ : ∃ x, (splQ s c bt).1 = x := ⟨_, rfl⟩
    rw [hr]
    have HRR := Lib.hid hr
    clear hs2 hst2 q0 q1 q2 q3 q4 q5 q6 hr
    go_wp2_with fail
    refine bodyPost_ret (v := .tuple #[.slice none 0 0, .int .i64 r]) (by simp [results, Try.results20, go_sem]) rfl (RDoE.plain (E.out.trans (Prod.ext HRR.out rfl)) h5.out HS2.out HAL.out HST2.out)
  by_cases h5 : kk = 5
  · have e5 : didQ s ⟨kk, c, v, bt, sm, rt, dv, d⟩ = (0, scrQ s) := by unfold didQ; simp [h5]
    have g5 : goneO s ⟨kk, c, v, bt, sm, rt, dv, d⟩ = goneQ s := by unfold goneO; rw [if_pos h5]
    have E := Lib.hid e5
    have E2 := Lib.hid g5
    clear e5 g5
    subst h5
    go_enter Try.func20, Try.ntmps20
    go_wp2_with fail
    refine (rscrub_s p k s G _ (by omega) (by have := HL.out; omega) HS.out).mono ?_
    rintro e w2 ⟨gv, G2, rfl, ho2, hs2, hst2⟩
    obtain ⟨Ag, capg, hvg⟩ := ho2.slice_
    subst hvg
    have HO2 := Lib.hid (ho2.mono HAL.out.size)
    have HS2 := Lib.hid hs2
    have HST2 := Lib.hid hst2
    clear ho2 hs2 hst2 q0 q1 q2 q3 q4 q5 q6
    go_wp2_with fail
    refine bodyPost_ret (v := .tuple #[.slice Ag (goneQ s).length capg, .int .i64 0]) (by simp [results, Try.results20, go_sem]) rfl ?_
    refine ⟨_, G2, by rw [E.out], ?_, by rw [E.out]; exact HS2.out.up, (StepG.below HAL.out).trans HST2.out⟩
    rw [E2.out]
    exact HO2.out
  by_cases h6 : kk = 6
  · have e6 : didQ s ⟨kk, c, v, bt, sm, rt, dv, d⟩ = (0, ⟨s.room, rstR s.l, s.f⟩) := by unfold didQ; simp [h6]
    have E := Lib.hid e6
    clear e6
    subst h6
    have h5 := Lib.hid (by omega : ((6 : Int)) ≠ 5)
    go_enter Try.func20, Try.ntmps20
    go_wp2_with fail
    refine (rrestart_s p k s G _ (by have := HL.out; omega) HS.out).mono ?_
    rintro e w2 ⟨G2, rfl, hs2, hst2⟩
    have HS2 := Lib.hid hs2
    have HST2 := Lib.hid hst2
    
    
    
    clear hs2 hst2 q0 q1 q2 q3 q4 q5 q6
    go_wp2_with fail
    refine bodyPost_ret (v := .tuple #[.slice none 0 0, .int .i64 0]) (by simp [results, Try.results20, go_sem]) rfl (RDoE.plain (E.out) h5.out HS2.out.up HAL.out HST2.out)
  have e7 : didQ s ⟨kk, c, v, bt, sm, rt, dv, d⟩ = (0, ⟨s.room, [], s.f⟩) := by unfold didQ; simp [h0, h1, h2, h3, h4, h5, h6]
  have E := Lib.hid e7
  have H5 := Lib.hid h5
  clear e7
  go_enter Try.func20, Try.ntmps20
  go_wp2_with fail
  refine (rwipe_s p k s G _ HS.out).mono ?_
  rintro e w2 ⟨G2, rfl, hs2, hst2⟩
  have HS2 := Lib.hid hs2
  have HST2 := Lib.hid hst2
  clear hs2 hst2 q0 q1 q2 q3 q4 q5 q6
  go_wp2_with fail
  refine bodyPost_ret (v := .tuple #[.slice none 0 0, .int .i64 0]) (by simp [results, Try.results20, go_sem]) rfl (RDoE.plain E.out H5.out HS2.out.up HAL.out HST2.out)

end Go.Proofs.Ytncgpojjibojlaa

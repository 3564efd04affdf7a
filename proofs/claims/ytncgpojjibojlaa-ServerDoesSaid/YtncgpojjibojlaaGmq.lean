/- The document's server: New, held, Report, Restart, Wipe, Abort, Remove, Begin, Commit: their contracts. -/
import Derived.Test.YtncgpojjibojlaaGlq
import Derived.Test.YtncgpojjibojlaaRf4q
import Derived.Test.YtncgpojjibojlaaRf5q
import Derived.Deep.RegionLaw
namespace Go.Proofs.Ytncgpojjibojlaa
open Go Go.RowKit Go.Sort

set_option maxHeartbeats 2000000 in
theorem rheld_any (q kq : Nat) (c : Int) (r : Sv) (H : Nat → Prop) (w : World) (h : RsAt w H q kq r) :
    Calls Try.prog 63 #[.pointer (some ⟨q, 0, none⟩), .int .i64 c] w (HeldE (heldR r.l c) w) := by
  obtain ⟨lv, pv, ps, h⟩ := h
  have hR := h.own.rd
  have hq := h.box
  obtain ⟨rm, l, ff⟩ := r
  dsimp only at hR hq ⊢
  clear h
  obtain ⟨A, cap, hv, hcap, hnc⟩ := hR.shape
  subst hv
  obtain ⟨n, hn⟩ : ∃ n, l.length = n := ⟨_, rfl⟩
  have HR := Lib.hid hR
  have HN := Lib.hid hn
  rw [hn] at hnc hq
  obtain ⟨u0, u1, u2⟩ := hq.three
  have HBQ0 := Lib.hid hq
  clear hR hn hq u0 u2
  have hnm : n ≤ 9223372036854775807 := by omega
  go_enter Try.func63, Try.ntmps63
  go_wp2_with fail
  have hal := below_one w (.cells #[.int .i64 0, .int .i64 0, .int .u32 0, .bool false, .bool false] 52)
  have hbx := Bx.new w 52 [.int .i64 0, .int .i64 0, .int .u32 0, .bool false, .bool false]
  change Bx (w.alloc (.cells #[.int .i64 0, .int .i64 0, .int .u32 0, .bool false, .bool false] 52)) _ _ _ at hbx
  have HBQ := Lib.hid (HBQ0.out.below' hal)
  clear u1
  generalize (w.alloc (.cells #[.int .i64 0, .int .i64 0, .int .u32 0, .bool false, .bool false] 52)) = w0 at *
  obtain ⟨bb, hbb⟩ : ∃ b, w.heap.size = b := ⟨_, rfl⟩
  rw [hbb] at hal hbx ⊢
  have HAL := Lib.hid hal
  have HBX := Lib.hid hbx
  have HBB := Lib.hid hbb
  have hbl := hbx.lt
  clear hal hbx hbb
  go_loopw [6] (fun s6 wr => ∃ (k : Nat), s6 = .int .i64 k ∧ k ≤ n ∧ (∀ j, j < k → ((at_ l j).1 == c && !(at_ l j).2.2.2.1) = false) ∧ Below w0.heap.size w0 wr) (fun s6 _ => n - (intOf s6).toNat)
  case atStart => exact ⟨0, rfl, by omega, fun j hj => absurd hj (by omega), Below.refl _ _⟩
  case round =>
    obtain ⟨k, rfl, hk, hall, hbel⟩ := hrel
    have HA := Lib.hid hall
    have HB := Lib.hid hbel
    have HX1 := Lib.hid (HBX.out.below' hbel)
    obtain ⟨u0, u1, u2⟩ := (HBQ.out.below' hbel).three
    clear u0 u2
    clear hall hbel
    by_cases hlt : k < n
    · have hltI : (k : Int) < (n : Int) := by omega
      have hR1 := (HR.out.below HAL.out (Nat.le_of_eq HBB.out)).below HB.out (Nat.le_refl _)
      rw [HN.out] at hR1
      obtain ⟨b, off, hA, hbl⟩ := hR1.addr (by omega)
      subst hA
      obtain ⟨c0, c1, c2, c3, c4⟩ := rd_re hR1 k (by rw [HN.out]; exact hlt)
      have HHT := Lib.hid (heldR_hit (l := l) (c := c) (k := k) (by rw [HN.out]; exact hlt) HA.out)
      obtain ⟨x, hx⟩ : ∃ x, at_ l k = x := ⟨_, rfl⟩
      rw [hx] at c0 c1 c2 c3 c4 HHT
      have HX := Lib.hid hx
      obtain ⟨x0, x1, x2, x3, x4⟩ := x
      simp only at c0 c1 c2 c3 c4 HHT
      have HNX : Hid ((x0 == c && !x3) = false → ∀ j, j < k + 1 → ((at_ l j).1 == c && !(at_ l j).2.2.2.1) = false) := fun h j hj => by
        by_cases e : j = k
        · subst e; rw [HX.out]; exact h
        · exact HA.out j (by omega)
      clear hx hR1
      by_cases he : x0 = c
      · have he' : (x0 == c) = true := by simpa using he
        clear he
        cases x3 with
        | true =>
          go_wp2_with fail
          go_roundw
          case rel => exact ⟨k + 1, by go_num, by omega, HNX.out (by rw [he']; rfl), HB.out⟩
          case measure => simp [intOf]; omega
        | false =>
          have hh := HHT.out (by rw [he']; rfl)
          have HH := Lib.hid hh
          clear hh
          go_wp2_with (with_reducible refine wpList_store_box rfl 52 _ _ rfl bb 52 _ [.int .i64 x0, .int .i64 x1, .int .u32 x2, .bool false, .bool x4] rfl HX1.out rfl rfl ?hk ?hl ?hm)
          case hk => kernel_rfl
          case hl => simp [Value.oneCell']
          case hm =>
            intro w3 hbx3 hfr3
            obtain ⟨q0, q1, q2, q3, q4⟩ := hbx3.five
            go_wp2_with fail
            refine bodyPost_ret (v := .tuple #[reV (x0, x1, x2, false, x4), .bool true]) ?_ rfl ⟨by rw [HH.out]; rfl, ?_⟩
            · simp [results, Try.results63, go_sem, reV, q0, q1, q2, q3, q4]
            · exact HBB.out ▸ (HAL.out.trans (HB.out.mono (by omega))).trans (hfr3.below (B := bb) (by have := HB.out.size; omega) (fun k hk => by have e' : k = bb := hk; omega))
      · have he' : (x0 == c) = false := by simpa using he
        clear he
        go_wp2_with fail
        go_roundw
        case rel => exact ⟨k + 1, by go_num, by omega, HNX.out (by rw [he']; rfl), HB.out⟩
        case measure => simp [intOf]; omega
    · obtain rfl : k = n := by omega
      have hh := heldR_none (l := l) (c := c) (by rw [HN.out]; exact HA.out)
      have HH := Lib.hid hh
      clear hh
      go_wp2_with (with_reducible refine wpList_store_box rfl 52 _ _ rfl bb 52 _ [.int .i64 0, .int .i64 0, .int .u32 0, .bool false, .bool false] rfl HX1.out rfl rfl ?hk ?hl ?hm)
      case hk => kernel_rfl
      case hl => simp [Value.oneCell']
      case hm =>
        intro w3 hbx3 hfr3
        obtain ⟨q0, q1, q2, q3, q4⟩ := hbx3.five
        go_wp2_with fail
        refine bodyPost_ret (v := .tuple #[reV reZ, .bool false]) ?_ rfl ⟨by rw [HH.out]; rfl, ?_⟩
        · simp [results, Try.results63, go_sem, reV, reZ, q0, q1, q2, q3, q4]
        · exact HBB.out ▸ (HAL.out.trans (HB.out.mono (by omega))).trans (hfr3.below (B := bb) (by have := HB.out.size; omega) (fun k hk => by have e' : k = bb := hk; omega))


theorem rs_new (rm : Int) (w : World) : RsAt (w.alloc (.cells #[.int .i64 rm, .slice none 0 0, .slice none 0 0] 46)) (fun i => i = w.heap.size) w.heap.size 0 ⟨rm, [], fun _ _ => []⟩ :=
  ⟨.slice none 0 0, .slice none 0 0, [], ⟨Bx.new w _ [_, _, _], Own.nil_ _ _ _ _, Own.nil_ _ _ _ _, fun x hx => (by cases hx), fun _ _ => rfl, rfl, fun g hg => (by cases hg), fun g hg => (by cases hg), fun x hx => (by cases hx), Nat.le_refl _, fun i hi => (by have hi' : i = w.heap.size := hi; rw [hi']; simp)⟩⟩
def RNewE (room : Int) (w : World) (e : Ending) (w' : World) : Prop := ∃ q H, e = .returned (.pointer (some ⟨q, 0, none⟩)) ∧ RsAt w' H q 0 (newS room) ∧ (∀ i, H i → w.heap.size ≤ i) ∧ Below w.heap.size w w'
theorem newS_eq (room x : Int) (h : min (max room 0) 16 = x) : newS room = ⟨x, [], fun _ _ => []⟩ := by unfold newS; rw [h]
set_option maxRecDepth 100000 in
theorem rnew_any (room : Int) (w : World) : Calls Try.prog 18 #[.int .i64 room] w (RNewE room w) := by
  have HB : Hid (∀ x, Below w.heap.size w (w.alloc (.cells #[.int .i64 x, .slice none 0 0, .slice none 0 0] 46))) := fun x => below_one w _
  have HN : Hid (∀ x, RsAt (w.alloc (.cells #[.int .i64 x, .slice none 0 0, .slice none 0 0] 46)) (fun i => i = w.heap.size) w.heap.size 0 ⟨x, [], fun _ _ => []⟩) := fun x => rs_new x w
  by_cases h0 : room < 0
  · have HE := Lib.hid (newS_eq room 0 (by omega))
    go_enter Try.func18, Try.ntmps18
    go_wp2_with fail
    go_ret
    exact ⟨_, _, rfl, by rw [HE.out]; exact HN.out 0, fun i hi => (by have hi' : i = w.heap.size := hi; omega), HB.out _⟩
  by_cases h1 : room > 16
  · have HE := Lib.hid (newS_eq room 16 (by omega))
    go_enter Try.func18, Try.ntmps18
    go_wp2_with fail
    go_ret
    exact ⟨_, _, rfl, by rw [HE.out]; exact HN.out 16, fun i hi => (by have hi' : i = w.heap.size := hi; omega), HB.out _⟩
  · have HE := Lib.hid (newS_eq room room (by omega))
    go_enter Try.func18, Try.ntmps18
    go_wp2_with fail
    go_ret
    exact ⟨_, _, rfl, by rw [HE.out]; exact HN.out room, fun i hi => (by have hi' : i = w.heap.size := hi; omega), HB.out _⟩

set_option maxHeartbeats 1000000 in
set_option maxRecDepth 100000 in
theorem rreport_any (q k : Nat) (r : Sv) (H : Nat → Prop) (w : World) (hl : r.l.length ≤ 900) (h : RsAt w H q k r) :
    Calls Try.prog 25 #[.pointer (some ⟨q, 0, none⟩)] w (FreshR (rstR r.l) w) := by
  obtain ⟨lv, pv, ps, h⟩ := h
  obtain ⟨q0, q1, q2⟩ := h.box.three
  have HR := Lib.hid h.own.rd
  clear h
  go_enter Try.func25, Try.ntmps25
  go_wp2_with fail
  refine (rrestart_any _ r.l w (by omega) HR.out).mono ?_
  rintro e w1 ⟨v1, rfl, ho1, hb1⟩
  have HO1 := Lib.hid ho1
  have HB1 := Lib.hid hb1
  clear ho1 hb1 q0 q1 q2
  go_wp2_with fail
  go_ret
  exact ⟨_, rfl, HO1.out, HB1.out⟩

/-- Its replicas are others now. -/
theorem RsV.setL {w1 w' : World} {H : Nat → Prop} {q k : Nat} {r : Sv} {lv pv : Value} {ps : List Pt} (h : RsV w1 H q k r lv pv ps) {l : List Re} {lv' : Value} (hb : Bx w' q 46 [.int .i64 r.room, lv', pv]) (hf : Fr (fun i => i = q) w1 w') (ho : Own w1 0 52 5 lv' l.length (l.flatMap reC)) :
    RsV w' (fun i => H i ∨ blk lv' = some i) q k ⟨r.room, l, r.f⟩ lv' pv ps :=
  RsV.next (w := w1) (r' := ⟨r.room, l, r.f⟩) hb h.box hf ho h.par h.row h.get (.inl h.hq) (fun g hg => .inr hg) (fun g hg => .inl (h.hp g hg)) (fun x hx g hg => .inl (h.hr x hx g hg)) h.cnt (fun i hi => hi.elim (h.lt i) (fun e => (ho.blk_lt e).2))
theorem RsV.stepL {w w1 : World} {H : Nat → Prop} {q k : Nat} {r : Sv} {lv pv : Value} {ps : List Pt} (h : RsV w H q k r lv pv ps) (hb1 : Below w.heap.size w w1) {l : List Re} {A : Option Addr} {n cap : Nat} (hn : l.length = n) (ho : Own w1 w.heap.size 52 5 (.slice A n cap) l.length (l.flatMap reC)) :
    RsAt (w1.setCell ⟨q, 1, none⟩ (.slice A n cap)) (fun i => H i ∨ blk (.slice A n cap) = some i) q k ⟨r.room, l, r.f⟩ ∧ StepG H (fun i => H i ∨ blk (.slice A n cap) = some i) w (w1.setCell ⟨q, 1, none⟩ (.slice A n cap)) := by
  have h1 := h.below' hb1
  refine ⟨⟨_, _, _, h1.setL (h1.box.set1 1 (.slice A n cap)) (Fr.setCell w1 _ _ _ rfl) (ho.mono (Nat.zero_le _))⟩, (Fr.of_below hb1).thenSet ⟨q, 1, none⟩ _ (.inl h.hq), fun i hi => hi.elim .inl (fun e => .inr (ho.blk_lt e).1)⟩

set_option maxHeartbeats 1000000 in
set_option maxRecDepth 100000 in
theorem rrestart_s (q k : Nat) (r : Sv) (H : Nat → Prop) (w : World) (hl : r.l.length ≤ 900) (h : RsAt w H q k r) :
    Calls Try.prog 59 #[.pointer (some ⟨q, 0, none⟩)] w (RsE H q k ⟨r.room, rstR r.l, r.f⟩ (.tuple #[]) w) := by
  obtain ⟨lv, pv, ps, h⟩ := h
  obtain ⟨q0, q1, q2⟩ := h.box.three
  have HH := Lib.hid h
  have z := h.box.frozen
  clear h
  go_enter Try.func59, Try.ntmps59
  go_wp2_with fail
  refine (rrestart_any _ r.l w (by omega) HH.out.own.rd).mono ?_
  rintro e w1 ⟨v1, rfl, ho1, hb1⟩
  obtain ⟨A1, cap1, e1⟩ := ho1.slice_
  subst e1
  have HO1 := Lib.hid ho1
  have HB1 := Lib.hid hb1
  have z1 := (HH.out.below' hb1).box.frozen
  obtain ⟨p0, p1, p2⟩ := (HH.out.below' hb1).box.three
  obtain ⟨n, hn⟩ : ∃ n, (rstR r.l).length = n := ⟨_, rfl⟩
  have HN := Lib.hid hn
  rw [hn]
  clear ho1 hb1 hn q0 q1 q2 z
  go_wp2_with fail
  refine bodyPost_ret (v := .tuple #[]) (by simp [results, Try.results59, go_sem]) rfl ?_
  have hs := HH.out.stepL HB1.out HN.out (by have := HO1.out; rw [HN.out] at this ⊢; exact this)
  exact ⟨_, rfl, hs.1, hs.2⟩

set_option maxHeartbeats 1000000 in
set_option maxRecDepth 100000 in
theorem rabort_s (q k : Nat) (c : Int) (r : Sv) (H : Nat → Prop) (w : World) (hl : r.l.length ≤ 900) (h : RsAt w H q k r) :
    Calls Try.prog 55 #[.pointer (some ⟨q, 0, none⟩), .int .i64 c] w (RsE H q k ⟨r.room, abtR r.l c, r.f⟩ (.tuple #[]) w) := by
  obtain ⟨lv, pv, ps, h⟩ := h
  obtain ⟨q0, q1, q2⟩ := h.box.three
  have HH := Lib.hid h
  have z := h.box.frozen
  clear h
  go_enter Try.func55, Try.ntmps55
  go_wp2_with fail
  refine (rabort_any _ r.l c w (by omega) HH.out.own.rd).mono ?_
  rintro e w1 ⟨v1, rfl, ho1, hb1⟩
  obtain ⟨A1, cap1, e1⟩ := ho1.slice_
  subst e1
  have HO1 := Lib.hid ho1
  have HB1 := Lib.hid hb1
  have z1 := (HH.out.below' hb1).box.frozen
  obtain ⟨p0, p1, p2⟩ := (HH.out.below' hb1).box.three
  obtain ⟨n, hn⟩ : ∃ n, (abtR r.l c).length = n := ⟨_, rfl⟩
  have HN := Lib.hid hn
  rw [hn]
  clear ho1 hb1 hn q0 q1 q2 z
  go_wp2_with fail
  refine bodyPost_ret (v := .tuple #[]) (by simp [results, Try.results55, go_sem]) rfl ?_
  have hs := HH.out.stepL HB1.out HN.out (by have := HO1.out; rw [HN.out] at this ⊢; exact this)
  exact ⟨_, rfl, hs.1, hs.2⟩

set_option maxRecDepth 100000 in
theorem rwipe_s (q k : Nat) (r : Sv) (H : Nat → Prop) (w : World) (h : RsAt w H q k r) :
    Calls Try.prog 60 #[.pointer (some ⟨q, 0, none⟩)] w (RsE H q k ⟨r.room, [], r.f⟩ (.tuple #[]) w) := by
  obtain ⟨lv, pv, ps, h⟩ := h
  obtain ⟨q0, q1, q2⟩ := h.box.three
  have HH := Lib.hid h
  have z := h.box.frozen
  clear h
  go_enter Try.func60, Try.ntmps60
  go_wp2_with fail
  refine bodyPost_ret (v := .tuple #[]) (by simp [results, Try.results60, go_sem]) rfl ?_
  have hs := HH.out.stepL (l := []) (A := none) (n := 0) (cap := 0) (Below.refl _ _) rfl (Own.nil_ _ _ _ _)
  exact ⟨_, rfl, hs.1, hs.2⟩

def rmvQ (r : Sv) (c : Int) : Int × Sv := if (rmvR r.l c).1 = 0 then (0, ⟨r.room, (rmvR r.l c).2, r.f⟩) else ((rmvR r.l c).1, r)
theorem rmvQ_ok {r : Sv} {c : Int} {m : List Re} (h : rmvR r.l c = (0, m)) : rmvQ r c = (0, ⟨r.room, m, r.f⟩) := by unfold rmvQ; rw [h]; rfl
theorem rmvQ_no {r : Sv} {c a : Int} {m : List Re} (h : rmvR r.l c = (a, m)) (ha : a ≠ 0) : rmvQ r c = (a, r) := by unfold rmvQ; rw [h]; simp only; rw [if_neg ha]

set_option maxHeartbeats 1000000 in
set_option maxRecDepth 100000 in
theorem rremove_s (q k : Nat) (c : Int) (r : Sv) (H : Nat → Prop) (w : World) (hl : r.l.length ≤ 900) (h : RsAt w H q k r) :
    Calls Try.prog 56 #[.pointer (some ⟨q, 0, none⟩), .int .i64 c] w (RsE H q k (rmvQ r c).2 (.int .i64 (rmvQ r c).1) w) := by
  obtain ⟨lv, pv, ps, h⟩ := h
  obtain ⟨q0, q1, q2⟩ := h.box.three
  have HH := Lib.hid h
  clear h
  obtain ⟨⟨a, m⟩, hm⟩ : ∃ p, rmvR r.l c = p := ⟨_, rfl⟩
  have HM := Lib.hid hm
  clear hm
  go_enter Try.func56, Try.ntmps56
  go_wp2_with fail
  refine (rremove_any _ r.l c w (by omega) HH.out.own.rd).mono ?_
  rintro e w1 ⟨v1, rfl, ho1, hb1⟩
  rw [HM.out] at ho1 ⊢
  dsimp only at ho1 ⊢
  obtain ⟨A1, cap1, e1⟩ := ho1.slice_
  subst e1
  have HO1 := Lib.hid ho1
  have HB1 := Lib.hid hb1
  have z1 := (HH.out.below' hb1).box.frozen
  obtain ⟨p0, p1, p2⟩ := (HH.out.below' hb1).box.three
  obtain ⟨n, hn⟩ : ∃ n, m.length = n := ⟨_, rfl⟩
  have HN := Lib.hid hn
  rw [hn]
  clear ho1 hb1 hn q0 q1 q2
  by_cases ha : a = 0
  · subst ha
    go_wp2_with fail
    go_ret
    have hs := HH.out.stepL HB1.out HN.out (by have := HO1.out; rw [HN.out] at this ⊢; exact this)
    rw [rmvQ_ok HM.out]
    exact ⟨_, rfl, hs.1, hs.2⟩
  · have haI : (a != 0) = true := by simpa using ha
    have HA := Lib.hid ha
    clear ha
    go_wp2_with fail
    go_ret
    rw [rmvQ_no HM.out HA.out]
    exact ⟨H, rfl, ⟨_, _, _, HH.out.below' HB1.out⟩, StepG.below HB1.out⟩

end Go.Proofs.Ytncgpojjibojlaa

/- The document's server: Begin, Commit, spoilt, Read: their contracts. -/
namespace Go.Proofs.Ytncgpojjibojlaa
open Go Go.RowKit Go.Sort

def cmtQ (r : Sv) (c v : Int) : Int × Sv := if (cmtR r.l c v).1 = 0 then (0, ⟨r.room, (cmtR r.l c v).2, upF r.f c false (r.f c true)⟩) else ((cmtR r.l c v).1, r)
theorem cmtQ_ok {r : Sv} {c v : Int} {m : List Re} (h : cmtR r.l c v = (0, m)) : cmtQ r c v = (0, ⟨r.room, m, upF r.f c false (r.f c true)⟩) := by unfold cmtQ; rw [h]; rfl
theorem cmtQ_no {r : Sv} {c v a : Int} {m : List Re} (h : cmtR r.l c v = (a, m)) (ha : a ≠ 0) : cmtQ r c v = (a, r) := by unfold cmtQ; rw [h]; simp only; rw [if_neg ha]
theorem RsAt.up {w : World} {H : Nat → Prop} {q k : Nat} {r : Sv} (h : RsAt w H q k r) : RsAt w H q (k + 1) r := by
  obtain ⟨lv, pv, ps, h⟩ := h
  exact ⟨lv, pv, ps, h.mono (Nat.le_succ k)⟩

set_option maxHeartbeats 2000000 in
set_option maxRecDepth 100000 in
theorem rcommit_s (q k : Nat) (c v : Int) (r : Sv) (H : Nat → Prop) (w : World) (hl : r.l.length ≤ 800) (hk : k < 1000) (h : RsAt w H q k r) :
    Calls Try.prog 54 #[.pointer (some ⟨q, 0, none⟩), .int .i64 c, .int .i64 v] w (RsE H q (k + 1) (cmtQ r c v).2 (.int .i64 (cmtQ r c v).1) w) := by
  obtain ⟨lv, pv, ps, h⟩ := h
  obtain ⟨q0, q1, q2⟩ := h.box.three
  have HH := Lib.hid h
  clear h
  obtain ⟨⟨a, m⟩, hm⟩ : ∃ p, cmtR r.l c v = p := ⟨_, rfl⟩
  have HM := Lib.hid hm
  clear hm
  go_enter Try.func54, Try.ntmps54
  go_wp2_with fail
  refine (rcommit_any _ r.l c v w (by omega) HH.out.own.rd).mono ?_
  rintro e w1 ⟨v1, rfl, ho1, hb1⟩
  rw [HM.out] at ho1 ⊢
  dsimp only at ho1 ⊢
  obtain ⟨A1, cap1, e1⟩ := ho1.slice_
  subst e1
  have HO1 := Lib.hid ho1
  have HB1 := Lib.hid hb1
  have z1 := (HH.out.below' hb1).box.frozen
  obtain ⟨p0, p1, p2⟩ := (HH.out.below' hb1).box.three
  obtain ⟨n, hn⟩ : ∃ n, m.length = n := ⟨_, rfl⟩
  have HN := Lib.hid hn
  rw [hn]
  clear ho1 hb1 hn q0 q1 q2
  by_cases ha : a = 0
  · subst ha
    have hs := HH.out.stepL HB1.out HN.out (by have := HO1.out; rw [HN.out] at this ⊢; exact this)
    have HS := Lib.hid hs
    clear hs
    go_wp2_with fail
    refine (rdata_any q k c true _ _ _ (by omega) HS.out.1).mono ?_
    rintro e w2 ⟨rfl, hokd, hld, v2, rfl, ho2, hx2⟩
    dsimp only at hokd hld ho2
    have HD2 := Lib.hid (⟨hokd, hld, ho2⟩ : _ ∧ _ ∧ _)
    clear hokd hld ho2 hx2 p0 p1 p2 z1
    go_wp2_with fail
    refine (rset_any q k c false v2 (r.f c true) _ _ _ (by omega) HD2.out.2.2.rd HD2.out.1 HD2.out.2.1 HS.out.1).mono ?_
    rintro e w3 ⟨H3, rfl, hs3, hst3⟩
    have HS3 := Lib.hid hs3
    have HST3 := Lib.hid hst3
    clear hs3 hst3
    go_wp2_with fail
    go_ret
    rw [cmtQ_ok HM.out]
    exact ⟨_, rfl, HS3.out, HS.out.2.trans HST3.out⟩
  · have haI : (a != 0) = true := by simpa using ha
    have HA := Lib.hid ha
    clear ha
    go_wp2_with fail
    go_ret
    rw [cmtQ_no HM.out HA.out]
    exact ⟨H, rfl, RsAt.up ⟨_, _, _, HH.out.below' HB1.out⟩, StepG.below HB1.out⟩

set_option maxHeartbeats 4000000 in
set_option maxRecDepth 100000 in
theorem rbegin_s (q k : Nat) (c v u : Int) (dv : Value) (d : List Nat) (r : Sv) (H : Nat → Prop) (w : World) (hl : r.l.length ≤ 800) (hk : k < 1000) (hok : okB d) (hD : Rd w 1 dv d.length (d.flatMap byC)) (hoff : OffG H dv) (h : RsAt w H q k r) :
    Calls Try.prog 53 #[.pointer (some ⟨q, 0, none⟩), .int .i64 c, .int .i64 v, .int .u32 u, dv] w (RsE H q (k + 1) (bgnS r c v u d).2 (.int .i64 (bgnS r c v u d).1) w) := by
  obtain ⟨lv, pv, ps, h⟩ := h
  obtain ⟨Ad, capd, hvd, _, hnc⟩ := hD.shape
  subst hvd
  obtain ⟨n, hn⟩ : ∃ n, d.length = n := ⟨_, rfl⟩
  have HN := Lib.hid hn
  rw [hn] at hD hnc ⊢
  have HH := Lib.hid h
  have HD : Hid (Rd w 1 (.slice Ad n capd) d.length (d.flatMap byC)) := by rw [HN.out]; exact hD
  have HOK := Lib.hid hok
  rw [hn] at hoff
  have HOF := Lib.hid hoff
  clear h hD hok hn hoff
  by_cases hbig : 64 < n
  · have hbI : (n : Int) > 64 := by omega
    go_enter Try.func53, Try.ntmps53
    go_wp2_with fail
    go_ret
    have : bgnS r c v u d = (7, r) := by unfold bgnS; rw [if_pos (by rw [HN.out]; exact hbig)]
    rw [this]
    exact ⟨H, rfl, RsAt.up ⟨_, _, _, HH.out⟩, StepG.refl _ _⟩
  have hbI : ¬ ((n : Int) > 64) := by omega
  go_enter Try.func53, Try.ntmps53
  go_wp2_with fail
  refine (rsum_any _ d w HOK.out HD.out).mono ?_
  rintro e w1 ⟨rfl, rfl⟩
  by_cases hsum : ((sumC d : Nat) : Int) = u
  · have hs' : (((sumC d : Nat) : Int) != u) = false := by simpa using hsum
    have HSUM := Lib.hid hsum
    clear hsum
    obtain ⟨⟨a, m⟩, hr⟩ : ∃ x, bgnR r.l (c, v, u, false, false) r.room = x := ⟨_, rfl⟩
    have HRM := Lib.hid hr
    have hhd := HH.out.below' (Below.refl w.heap.size w).drew
    have HHD := Lib.hid hhd
    have BG := rbegin_any lv r.l (c, v, u, false, false) r.room w.drew (by omega) hhd.own.rd
    rw [hr] at BG
    unfold FreshT at BG
    dsimp only at BG
    have HBG := Lib.hid BG
    have m2d : w.drew.cell? ⟨q, 0, none⟩ = some (.int .i64 r.room) ∧ w.drew.cell? ⟨q, 1, none⟩ = some lv := ⟨hhd.box.three.1, hhd.box.three.2.1⟩
    clear BG hr hhd
    go_wp2_with fail
    go_region_held3 (fun w' => w'.cell? ⟨q, 0, none⟩ = some (.int .i64 r.room) ∧ w'.cell? ⟨q, 1, none⟩ = some lv) (first | exact n6 | exact m2d | go_keep)
      (first | (go_at_call 80; refine HBG.out.mono ?_; rintro e w3 ⟨v3, rfl, ho3, hb3⟩; obtain ⟨A3, cap3, e3⟩ := ho3.slice_; subst e3; have HO3 := Lib.hid ho3; have HB3 := Lib.hid hb3; have n6 : w3.cell? ⟨q, 0, none⟩ = some (.int .i64 r.room) ∧ w3.cell? ⟨q, 1, none⟩ = some lv := ⟨(HHD.out.box.below' hb3).three.1, (HHD.out.box.below' hb3).three.2.1⟩; clear ho3 hb3))
    clear m2d n6
    have z3 := (HHD.out.below' HB3.out).box.frozen
    obtain ⟨p0, p1, p2⟩ := (HHD.out.below' HB3.out).box.three
    have HBW : Hid (Below w.heap.size w w3) := (Below.refl w.heap.size w).drew.trans HB3.out
    obtain ⟨nm, hnm⟩ : ∃ n, m.length = n := ⟨_, rfl⟩
    have HNM := Lib.hid hnm
    rw [hnm]
    clear hnm
    by_cases ha : a = 0
    · subst ha
      have hs := HH.out.stepL HBW.out HNM.out (by have := HO3.out; rw [HNM.out] at this ⊢; exact this)
      have HS := Lib.hid hs
      clear hs
      go_wp2_with fail
      refine (rset_any q k c true _ d _ _ _ (by omega) (by rw [HN.out]; have := HD.out.off HS.out.2.1 HOF.out; rw [HN.out] at this; exact this) HOK.out (by rw [HN.out]; omega) HS.out.1).mono ?_
      rintro e w4 ⟨H4, rfl, hs4, hst4⟩
      have HS4 := Lib.hid hs4
      have HST4 := Lib.hid hst4
      clear hs4 hst4 p0 p1 p2 z3
      go_wp2_with fail
      go_ret
      rw [bgnS_ok (by rw [HN.out]; exact hbig) HSUM.out HRM.out]
      exact ⟨_, rfl, HS4.out, HS.out.2.trans HST4.out⟩
    · have haI : (a != 0) = true := by simpa using ha
      have HA := Lib.hid ha
      clear ha
      go_wp2_with fail
      go_ret
      rw [bgnS_no (by rw [HN.out]; exact hbig) HSUM.out HRM.out HA.out]
      exact ⟨H, rfl, RsAt.up ⟨_, _, _, HH.out.below' HBW.out⟩, StepG.below HBW.out⟩
  · have hs' : (((sumC d : Nat) : Int) != u) = true := by simpa using hsum
    have HSUM := Lib.hid hsum
    clear hsum
    go_wp2_with fail
    go_ret
    have : bgnS r c v u d = (4, r) := by unfold bgnS; rw [if_neg (by rw [HN.out]; exact hbig), if_pos HSUM.out]
    rw [this]
    exact ⟨H, rfl, RsAt.up ⟨_, _, _, HH.out⟩, StepG.refl _ _⟩

set_option maxHeartbeats 2000000 in
set_option maxRecDepth 100000 in
theorem rspoilt_any (q k : Nat) (x : Re) (r : Sv) (H : Nat → Prop) (w : World) (hk : k ≤ 1000) (h : RsAt w H q k r) :
    Calls Try.prog 64 #[.pointer (some ⟨q, 0, none⟩), .agg #[.int .i64 x.1, .int .i64 x.2.1, .int .u32 x.2.2.1, .bool x.2.2.2.1, .bool x.2.2.2.2]] w fun e w' => e = .returned (.bool (spoiltS r x)) ∧ Below w.heap.size w w' := by
  obtain ⟨x0, x1, x2, x3, x4⟩ := x
  dsimp only
  have hal := below_one w (.cells #[.int .i64 x0, .int .i64 x1, .int .u32 x2, .bool x3, .bool x4] 52)
  have hbx := Bx.new w 52 [.int .i64 x0, .int .i64 x1, .int .u32 x2, .bool x3, .bool x4]
  change Bx (w.alloc (.cells #[.int .i64 x0, .int .i64 x1, .int .u32 x2, .bool x3, .bool x4] 52)) _ _ _ at hbx
  have HS := Lib.hid ((h.below_ hal).below_ (Below.refl _ _).drew)
  have HAL : Hid (Below w.heap.size w (w.alloc (.cells #[.int .i64 x0, .int .i64 x1, .int .u32 x2, .bool x3, .bool x4] 52)).drew) := hal.drew
  obtain ⟨q0, q1, q2, q3, q4⟩ := hbx.five
  have m2d : (w.alloc (.cells #[.int .i64 x0, .int .i64 x1, .int .u32 x2, .bool x3, .bool x4] 52)).drew.cell? ⟨w.heap.size, 0, none⟩ = some (.int .i64 x0) ∧ (w.alloc (.cells #[.int .i64 x0, .int .i64 x1, .int .u32 x2, .bool x3, .bool x4] 52)).drew.cell? ⟨w.heap.size, 2, none⟩ = some (.int .u32 x2) := ⟨q0, q2⟩
  have HE : Hid (spoiltS r (x0, x1, x2, x3, x4) = (((sumC (r.f x0 false) : Nat) : Int) != x2)) := by
    unfold spoiltS
    by_cases e : ((sumC (r.f x0 false) : Nat) : Int) = x2 <;> exact Lib.hid (by simp [e])
  clear hal hbx h
  go_enter Try.func64, Try.ntmps64
  go_wp2_with fail
  go_region_held3 (fun w' => w'.cell? ⟨w.heap.size, 0, none⟩ = some (.int .i64 x0) ∧ w'.cell? ⟨w.heap.size, 2, none⟩ = some (.int .u32 x2)) (first | exact m2d | go_keep)
    (first
      | (go_at_call 65; refine (rdata_any q k x0 false r H _ hk HS.out).mono ?_; rintro e w3 ⟨rfl, hokd, hld, v3, rfl, ho3, hx3⟩; have HD3 := Lib.hid (⟨hokd, hld, ho3⟩ : _ ∧ _ ∧ _); clear hokd hld ho3 hx3)
      | (go_at_call 88; refine (rsum_any _ _ _ HD3.out.1 HD3.out.2.2.rd).mono ?_; rintro e w4 ⟨rfl, rfl⟩))
  go_wp2_with fail
  go_ret
  rw [HE.out]
  exact ⟨rfl, HAL.out⟩

end Go.Proofs.Ytncgpojjibojlaa

/- The document's server: Read: the contract. -/
namespace Go.Proofs.Ytncgpojjibojlaa
open Go Go.RowKit Go.Sort

def readQ (r : Sv) (c : Int) : List Nat × Int × Int := match findR r.l c false with
  | none => ([], 0, 5)
  | some x => if spoiltS r x then ([], 0, 4) else (r.f c false, x.2.1, 0)
def RReadE (r : Sv) (c : Int) (w : World) (e : Ending) (w' : World) : Prop :=
  ∃ v, e = .returned (.tuple #[v, .int .i64 (readQ r c).2.1, .int .i64 (readQ r c).2.2]) ∧ Own w' w.heap.size 5 1 v (readQ r c).1.length ((readQ r c).1.flatMap byC) ∧ Below w.heap.size w w'
theorem RReadE.of {r : Sv} {c a b : Int} {d : List Nat} {w w' : World} {v : Value} (h : readQ r c = (d, a, b)) (ho : Own w' w.heap.size 5 1 v d.length (d.flatMap byC)) (hb : Below w.heap.size w w') : RReadE r c w (.returned (.tuple #[v, .int .i64 a, .int .i64 b])) w' := by
  unfold RReadE
  rw [h]
  exact ⟨v, rfl, ho, hb⟩

set_option maxHeartbeats 4000000 in
set_option maxRecDepth 100000 in
theorem rread_any (q k : Nat) (c : Int) (r : Sv) (H : Nat → Prop) (w : World) (hk : k ≤ 1000) (h : RsAt w H q k r) :
    Calls Try.prog 22 #[.pointer (some ⟨q, 0, none⟩), .int .i64 c] w (RReadE r c w) := by
  have HH := Lib.hid h
  clear h
  go_enter Try.func22, Try.ntmps22
  go_wp2_with fail
  refine (rheld_any q k c r H w HH.out).mono ?_
  rintro e w1 ⟨rfl, hb1⟩
  have HB1 := Lib.hid hb1
  have HS1 := Lib.hid (HH.out.below_ hb1)
  obtain ⟨oh, hoh⟩ : ∃ o, heldR r.l c = o := ⟨_, rfl⟩
  rw [hoh]
  have HOH : Hid (findR r.l c false = oh) := by rw [← hoh]; exact Lib.hid (heldR_find _ _).symm
  clear hb1 hoh
  cases oh with
  | none =>
    simp only [optR, Option.getD_none, reV, reZ, Option.isSome_none]
    have HQ : Hid (readQ r c = ([], 0, 5)) := by unfold readQ; rw [HOH.out]; exact Lib.hid rfl
    have hal := below_one w1 (.cells #[.int .i64 0, .int .i64 0, .int .u32 0, .bool false, .bool false] 52)
    have HAL := Lib.hid (below_then HB1.out hal)
    clear hal
    go_wp2_with fail
    refine bodyPost_ret (v := .tuple #[.slice none 0 0, .int .i64 0, .int .i64 5]) (by simp [results, Try.results22, go_sem]) rfl (RReadE.of HQ.out (Own.nil_ _ _ _ _) HAL.out)
  | some x =>
    obtain ⟨x0, x1, x2, x3, x4⟩ := x
    simp only [optR, Option.getD_some, reV, Option.isSome_some]
    have hal := below_one w1 (.cells #[.int .i64 x0, .int .i64 x1, .int .u32 x2, .bool x3, .bool x4] 52)
    have hbx := Bx.new w1 52 [.int .i64 x0, .int .i64 x1, .int .u32 x2, .bool x3, .bool x4]
    change Bx (w1.alloc (.cells #[.int .i64 x0, .int .i64 x1, .int .u32 x2, .bool x3, .bool x4] 52)) _ _ _ at hbx
    obtain ⟨q0, q1, q2, q3, q4⟩ := hbx.five
    have HBX := Lib.hid hbx
    have HAL := Lib.hid (below_then HB1.out hal)
    have HSA := Lib.hid (HS1.out.below_ hal)
    clear hal hbx
    go_wp2_with fail
    refine (rspoilt_any q k (x0, x1, x2, x3, x4) r H _ hk HSA.out).mono ?_
    rintro e w2 ⟨rfl, hb2⟩
    have HB2 := Lib.hid (HAL.out.trans (hb2.mono HAL.out.size))
    have HS2 := Lib.hid (HSA.out.below_ hb2)
    have HBX2 := Lib.hid (HBX.out.below' hb2)
    obtain ⟨B, hB⟩ : ∃ B, w1.heap.size = B := ⟨_, rfl⟩
    rw [hB] at HBX2 ⊢
    obtain ⟨b, hb⟩ : ∃ b, spoiltS r (x0, x1, x2, x3, x4) = b := ⟨_, rfl⟩
    have HSP := Lib.hid hb
    rw [hb]
    clear hb2 q0 q1 q2 q3 q4 hB hb HBX HAL HSA
    cases b with
    | true =>
      have HQ : Hid (readQ r c = ([], 0, 4)) := by unfold readQ; rw [HOH.out]; simp only; rw [HSP.out]; exact Lib.hid rfl
      go_wp2_with fail
      refine bodyPost_ret (v := .tuple #[.slice none 0 0, .int .i64 0, .int .i64 4]) (by simp [results, Try.results22, go_sem]) rfl (RReadE.of HQ.out (Own.nil_ _ _ _ _) HB2.out)
    | false =>
      have HQ : Hid (readQ r c = (r.f c false, x1, 0)) := by unfold readQ; rw [HOH.out]; simp only; rw [HSP.out]; exact Lib.hid rfl
      have HSD := Lib.hid (HS2.out.below_ (Below.refl w2.heap.size w2).drew)
      have HXD := Lib.hid (HBX2.out.below' (Below.refl w2.heap.size w2).drew)
      have m2d : w2.drew.cell? ⟨B, 1, none⟩ = some (.int .i64 x1) := HXD.out.five.2.1
      have HB2d : Hid (Below w.heap.size w w2.drew) := HB2.out.drew
      go_wp2_with fail
      obtain ⟨ii, hii, hz0, hz1, hz2⟩ := info_parts info_by
      go_region_law (first
          | (refine step_append_seg (by rfl) (.const (.slice none 0 0)) (.tmp 24) 34 (by rfl) w2.heap.size 5 ii _ 1 1 (by kernel_rfl) hii hz0 hz1 hz2 (by rfl) (by omega) (.slice none 0 0) 0 [] (by rfl) (Own.nil_ _ _ _ _) v3 (r.f c false).length ((r.f c false).flatMap byC) (by rfl) HD3.out.2.2.rd (byC_one _) (by have := HD3.out.2.1; unfold maxLen; omega) (by have := HD3.out.2.1; omega) (Nat.le_refl _) ?_; intro v5 w5 hown5 hfr5 _; have hb5 := hfr5.below (Nat.le_refl _) (fun k hk => by cases hk); rw [Nat.zero_add, List.nil_append] at hown5; obtain ⟨A5, cap5, e5⟩ := hown5.slice_; subst e5; have HO5 := Lib.hid hown5; have HB5 := Lib.hid hb5; have n6 : w5.cell? ⟨B, 1, none⟩ = some (.int .i64 x1) := (HXD.out.below' hb5).five.2.1; clear hown5 hb5 hfr5)
          | (go_simp; go_at_call 65; refine (rdata_any q k c false r H _ hk HSD.out).mono ?_; rintro e w3 ⟨rfl, hokd, hld, v3, rfl, ho3, hx3⟩; have HD3 := Lib.hid (⟨hokd, hld, ho3⟩ : _ ∧ _ ∧ _); clear hokd hld ho3 hx3))
      all_goals
        go_wp2_with fail
        refine bodyPost_ret (v := .tuple #[.slice A5 (r.f c false).length cap5, .int .i64 x1, .int .i64 0]) (by simp [results, Try.results22, go_sem]) rfl (RReadE.of HQ.out (HO5.out.mono HB2d.out.size) (HB2d.out.trans (HB5.out.mono HB2d.out.size)))

end Go.Proofs.Ytncgpojjibojlaa

/- sutureref10.put: its contract. -/
import Derived.Test.YtncgpojjibojlaaRf2
namespace Go.Proofs.Ytncgpojjibojlaa
open Go Go.RowKit

def ptB (x : Re) (l : List Re) : Bool := l.any (fun y => decide (kR x < kR y))
def ptO (x : Re) (l : List Re) : List Re := l.filter (fun y => decide (kR y < kR x)) ++ (if ptB x l then x :: l.filter (fun y => decide (kR x < kR y)) else [])
theorem ptB_snoc (x y : Re) (l : List Re) : ptB x (l ++ [y]) = (ptB x l || decide (kR x < kR y)) := by simp [ptB]
theorem pt_none {x : Re} {l : List Re} (h : ptB x l = false) : l.filter (fun y => decide (kR x < kR y)) = [] := by
  rw [List.filter_eq_nil_iff]
  intro y hy
  unfold ptB at h
  rw [List.any_eq_false] at h
  exact h y hy
theorem ptO_put {x : Re} {l : List Re} : (if ptB x l then ptO x l else ptO x l ++ [x]) = putR l x := by
  unfold ptO putR
  cases h : ptB x l with
  | true => simp
  | false => simp [pt_none h]
theorem pt_low {x y : Re} {l : List Re} (h : Ris kR (l ++ [y])) (hk : kR y ≤ kR x) : ptB x l = false := by
  unfold ptB
  rw [List.any_eq_false]
  intro z hz
  have := (List.pairwise_append.1 h).2.2 z hz y (by simp)
  simp
  omega
theorem pt_step {l : List Re} {x y : Re} (h : Ris kR (l ++ [y])) :
    (kR x < kR y → ptB x l = false → ptO x (l ++ [y]) = ptO x l ++ [x] ++ [y] ∧ ptB x (l ++ [y]) = true) ∧ (kR x < kR y → ptB x l = true → ptO x (l ++ [y]) = ptO x l ++ [y] ∧ ptB x (l ++ [y]) = true) ∧
    (kR y < kR x → ptO x (l ++ [y]) = ptO x l ++ [y] ∧ ptB x (l ++ [y]) = ptB x l) ∧ (kR y = kR x → ptO x (l ++ [y]) = ptO x l ∧ ptB x (l ++ [y]) = ptB x l) := by
  refine ⟨fun hk hd => ?_, fun hk hd => ?_, fun hk => ?_, fun hk => ?_⟩
  · have e : ptB x (l ++ [y]) = true := by rw [ptB_snoc, hd]; simpa using hk
    refine ⟨?_, e⟩
    unfold ptO
    rw [e, hd, List.filter_append, List.filter_append, pt_none hd]
    simp [hk, show ¬ kR y < kR x by omega]
  · have e : ptB x (l ++ [y]) = true := by rw [ptB_snoc, hd]; rfl
    refine ⟨?_, e⟩
    unfold ptO
    rw [e, hd, List.filter_append, List.filter_append]
    simp [hk, show ¬ kR y < kR x by omega]
  · have hd := pt_low h (Int.le_of_lt hk)
    have e : ptB x (l ++ [y]) = false := by rw [ptB_snoc, hd]; simp; omega
    refine ⟨?_, by rw [e, hd]⟩
    unfold ptO
    rw [e, hd, List.filter_append]
    simp [hk]
  · have hd := pt_low h (Int.le_of_eq hk)
    have e : ptB x (l ++ [y]) = false := by rw [ptB_snoc, hd]; simp; omega
    refine ⟨?_, by rw [e, hd]⟩
    unfold ptO
    rw [e, hd, List.filter_append]
    simp [hk]
theorem ptO_len (x : Re) (l : List Re) : (ptO x l).length ≤ l.length + 1 := by
  have h := filter3_len l (kR x)
  have h2 := dropR_len_le l (kR x)
  unfold ptO
  rw [List.length_append]
  split
  · rw [List.length_cons]; omega
  · simp; omega

set_option maxHeartbeats 8000000 in
set_option maxRecDepth 100000 in
theorem rput_any (v : Value) (l : List Re) (x : Re) (w : World) (hl : l.length ≤ 1000) (hris : Ris kR l) (hR : Rd w 5 v l.length (l.flatMap reC)) :
    Calls Try.prog 99 #[v, .agg #[.int .i64 x.1, .int .i64 x.2.1, .int .u32 x.2.2.1, .bool x.2.2.2.1, .bool x.2.2.2.2]] w (FreshR (putR l x) w) := by
  obtain ⟨A, cap, hv, hcap, hnc⟩ := hR.shape
  subst hv
  obtain ⟨n, hn⟩ : ∃ n, l.length = n := ⟨_, rfl⟩
  have HN := Lib.hid hn
  have HI := Lib.hid hris
  obtain ⟨x0, x1, x2, x3, x4⟩ := x
  have hal := below_one w (.cells #[.int .i64 x0, .int .i64 x1, .int .u32 x2, .bool x3, .bool x4] 52)
  have hbx := Bx.new w 52 [.int .i64 x0, .int .i64 x1, .int .u32 x2, .bool x3, .bool x4]
  change Bx (w.alloc (.cells #[.int .i64 x0, .int .i64 x1, .int .u32 x2, .bool x3, .bool x4] 52)) _ _ _ at hbx
  have HR := Lib.hid (hR.below hal (Nat.le_refl _))
  rw [hn] at hnc hl HR ⊢
  dsimp only
  clear hn hris hR
  have hnm : n ≤ 9223372036854775807 := by omega
  go_enter Try.func99, Try.ntmps99
  go_wp2_with fail
  generalize (w.alloc (.cells #[.int .i64 x0, .int .i64 x1, .int .u32 x2, .bool x3, .bool x4] 52)) = w0 at *
  have HAL := Lib.hid hal
  have HBX := Lib.hid hbx
  have hbl := hbx.lt
  obtain ⟨B, hB⟩ : ∃ b, w.heap.size = b := ⟨_, rfl⟩
  have HBZ := Lib.hid hB
  rw [hB] at HBX hbl ⊢
  clear hal hbx hB
  go_loopw [5, 6, 7] (fun s5 s6 s7 wr => ∃ k : Nat, s7 = .int .i64 k ∧ k ≤ n ∧ s6 = .bool (ptB (x0, x1, x2, x3, x4) (l.take k)) ∧ Own wr w0.heap.size 52 5 s5 (ptO (x0, x1, x2, x3, x4) (l.take k)).length ((ptO (x0, x1, x2, x3, x4) (l.take k)).flatMap reC) ∧ Below w0.heap.size w0 wr) (fun _ _ s7 _ => n - (intOf s7).toNat)
  case atStart => exact ⟨0, rfl, Nat.zero_le _, rfl, Own.nil_ _ _ _ _, Below.refl _ _⟩
  case round =>
    obtain ⟨k, rfl, hk, rfl, hown, hbel⟩ := hrel
    obtain ⟨A5, cap5, hv5⟩ := hown.slice_
    subst hv5
    have hql : (ptO (x0, x1, x2, x3, x4) (l.take k)).length ≤ k + 1 := Nat.le_trans (ptO_len _ _) (by rw [List.length_take]; omega)
    by_cases hlt : k < n
    · have hltI : (k : Int) < (n : Int) := by omega
      have hR1 := HR.out.below hbel (Nat.le_refl _)
      obtain ⟨b, off, hA, hbl2⟩ := hR1.addr (by omega)
      subst hA
      obtain ⟨c0, c1, c2, c3, c4⟩ := rd_re hR1 k (by rw [HN.out]; exact hlt)
      have htk := take_at (l := l) (i := k) (by rw [HN.out]; exact hlt)
      have hst := pt_step (l := l.take k) (x := (x0, x1, x2, x3, x4)) (y := at_ l k) (by rw [← htk]; exact HI.out.sublist (List.take_sublist _ _))
      rw [← htk] at hst
      obtain ⟨y, hy⟩ : ∃ y, at_ l k = y := ⟨_, rfl⟩
      rw [hy] at c0 c1 c2 c3 c4 hst
      obtain ⟨q, hq⟩ : ∃ q, ptO (x0, x1, x2, x3, x4) (l.take k) = q := ⟨_, rfl⟩
      obtain ⟨d, hd⟩ : ∃ d, ptB (x0, x1, x2, x3, x4) (l.take k) = d := ⟨_, rfl⟩
      rw [hq, hd] at hst
      rw [hq] at hown hql ⊢
      rw [hd]
      have HST := Lib.hid hst
      have HO := Lib.hid hown
      have HB := Lib.hid hbel
      obtain ⟨y0, y1, y2, y3, y4⟩ := y
      simp only at c0 c1 c2 c3 c4
      have hal := below_one wr (.cells #[.int .i64 y0, .int .i64 y1, .int .u32 y2, .bool y3, .bool y4] 52)
      have hby := Bx.new wr 52 [.int .i64 y0, .int .i64 y1, .int .u32 y2, .bool y3, .bool y4]
      change Bx (wr.alloc (.cells #[.int .i64 y0, .int .i64 y1, .int .u32 y2, .bool y3, .bool y4] 52)) _ _ _ at hby
      have hbx1 := (HBX.out.below' hbel).below' hal
      obtain ⟨q0, q1, q2, q3, q4⟩ := hbx1.five
      obtain ⟨r0, r1, r2, r3, r4⟩ := hby.five
      have HX1 := Lib.hid hbx1
      have HY1 := Lib.hid hby
      have hsw := hbel.size
      have HOA := Lib.hid (hown.alloc (.cells #[.int .i64 y0, .int .i64 y1, .int .u32 y2, .bool y3, .bool y4] 52))
      have HBA := Lib.hid (below_then hbel hal)
      clear hst hown hbel hal hby hbx1 hq hd hy htk hR1
      by_cases h1 : y0 > x0
      · have hup : kR (x0, x1, x2, x3, x4) < kR (y0, y1, y2, y3, y4) := by simp only [kR]; have := flI_le x3; have := flI_le y3; omega
        cases d with
        | false =>
          have hs := HST.out.1 (hup) rfl
          have HS1 := Lib.hid hs.1
          have HS2 := Lib.hid hs.2
          clear hs HST hup
          go_wp2_with (first | (at_builtin; refine wpList_app_re rfl (.tmp 46) (.tmp 48) rfl w0.heap.size (.slice A5 q.length cap5) q rfl (HOA.out.alloc _) (.slice (some ⟨wr.heap.size + 1, 0, none⟩) 1 1) [(x0, x1, x2, x3, x4)] rfl (rd_re1 _ (by have := Bx.new (wr.alloc (.cells #[.int .i64 y0, .int .i64 y1, .int .u32 y2, .bool y3, .bool y4] 52)) 52 (reC (x0, x1, x2, x3, x4)); rw [World.size_alloc] at this; exact this)) (by simp; omega) (by simp; omega) ?_; intro v3 w3 hown3 hfr3 _ hb3; have hx3 := (HX1.out.alloc (.cells #[.int .i64 x0, .int .i64 x1, .int .u32 x2, .bool x3, .bool x4] 52)).fr hfr3 (fun e => by have := (HO.out.blk_lt e).1; omega); have hy3 := (HY1.out.alloc (.cells #[.int .i64 x0, .int .i64 x1, .int .u32 x2, .bool x3, .bool x4] 52)).fr hfr3 (fun e => by have := (HO.out.blk_lt e).2; omega); obtain ⟨qq0, qq1, qq2, qq3, qq4⟩ := hx3.five; obtain ⟨rr0, rr1, rr2, rr3, rr4⟩ := hy3.five; have HO3 := Lib.hid hown3; have HB3 := Lib.hid ((HBA.out.alloc (by simp; omega) _).trans hb3); have hs3 := HB3.out.size; clear hown3 hfr3 hb3 hx3 hy3) | (at_builtin; refine wpList_app_re rfl (.tmp 62) (.tmp 64) rfl w0.heap.size v3 (q ++ [(x0, x1, x2, x3, x4)]) rfl (HO3.out.alloc _) (.slice (some ⟨w3.heap.size, 0, none⟩) 1 1) [(y0, y1, y2, y3, y4)] rfl (rd_re1 _ (Bx.new w3 52 (reC (y0, y1, y2, y3, y4)))) (by simp; omega) (by simp; omega) ?_; intro v4 w4 hown4 _ _ hb4; have HO4 := Lib.hid hown4; have HB4 := Lib.hid ((HB3.out.alloc hs3 _).trans hb4); clear hown4 hb4))
          go_roundw
          case rel => exact ⟨k + 1, by go_num, by omega, by rw [HS2.out], by rw [HS1.out]; exact HO4.out, HB4.out⟩
          case measure => simp [intOf]; omega
        | true =>
          have hs := HST.out.2.1 (hup) rfl
          have HS1 := Lib.hid hs.1
          have HS2 := Lib.hid hs.2
          clear hs HST hup
          go_wp2_with (at_builtin; refine wpList_app_re rfl (.tmp 62) (.tmp 64) rfl w0.heap.size (.slice A5 q.length cap5) q rfl (HOA.out.alloc _) (.slice (some ⟨wr.heap.size + 1, 0, none⟩) 1 1) [(y0, y1, y2, y3, y4)] rfl (rd_re1 _ (by have := Bx.new (wr.alloc (.cells #[.int .i64 y0, .int .i64 y1, .int .u32 y2, .bool y3, .bool y4] 52)) 52 (reC (y0, y1, y2, y3, y4)); rw [World.size_alloc] at this; exact this)) (by simp; omega) (by simp; omega) ?_; intro v4 w4 hown4 _ _ hb4; have HO4 := Lib.hid hown4; have HB4 := Lib.hid ((HBA.out.alloc (by simp; omega) _).trans hb4); clear hown4 hb4)
          go_roundw
          case rel => exact ⟨k + 1, by go_num, by omega, by rw [HS2.out], by rw [HS1.out]; exact HO4.out, HB4.out⟩
          case measure => simp [intOf]; omega
      by_cases h2 : y0 < x0
      · have hdn : kR (y0, y1, y2, y3, y4) < kR (x0, x1, x2, x3, x4) := by simp only [kR]; have := flI_le x3; have := flI_le y3; omega
        cases d with
        | false =>
          have hs := HST.out.2.2.1 (hdn)
          have HS1 := Lib.hid hs.1
          have HS2 := Lib.hid hs.2
          clear hs HST hdn
          go_wp2_with (at_builtin; refine wpList_app_re rfl (.tmp 62) (.tmp 64) rfl w0.heap.size (.slice A5 q.length cap5) q rfl (HOA.out.alloc _) (.slice (some ⟨wr.heap.size + 1, 0, none⟩) 1 1) [(y0, y1, y2, y3, y4)] rfl (rd_re1 _ (by have := Bx.new (wr.alloc (.cells #[.int .i64 y0, .int .i64 y1, .int .u32 y2, .bool y3, .bool y4] 52)) 52 (reC (y0, y1, y2, y3, y4)); rw [World.size_alloc] at this; exact this)) (by simp; omega) (by simp; omega) ?_; intro v4 w4 hown4 _ _ hb4; have HO4 := Lib.hid hown4; have HB4 := Lib.hid ((HBA.out.alloc (by simp; omega) _).trans hb4); clear hown4 hb4)
          go_roundw
          case rel => exact ⟨k + 1, by go_num, by omega, by rw [HS2.out], by rw [HS1.out]; exact HO4.out, HB4.out⟩
          case measure => simp [intOf]; omega
        | true =>
          have hs := HST.out.2.2.1 (hdn)
          have HS1 := Lib.hid hs.1
          have HS2 := Lib.hid hs.2
          clear hs HST hdn
          go_wp2_with (at_builtin; refine wpList_app_re rfl (.tmp 62) (.tmp 64) rfl w0.heap.size (.slice A5 q.length cap5) q rfl (HOA.out.alloc _) (.slice (some ⟨wr.heap.size + 1, 0, none⟩) 1 1) [(y0, y1, y2, y3, y4)] rfl (rd_re1 _ (by have := Bx.new (wr.alloc (.cells #[.int .i64 y0, .int .i64 y1, .int .u32 y2, .bool y3, .bool y4] 52)) 52 (reC (y0, y1, y2, y3, y4)); rw [World.size_alloc] at this; exact this)) (by simp; omega) (by simp; omega) ?_; intro v4 w4 hown4 _ _ hb4; have HO4 := Lib.hid hown4; have HB4 := Lib.hid ((HBA.out.alloc (by simp; omega) _).trans hb4); clear hown4 hb4)
          go_roundw
          case rel => exact ⟨k + 1, by go_num, by omega, by rw [HS2.out], by rw [HS1.out]; exact HO4.out, HB4.out⟩
          case measure => simp [intOf]; omega
      obtain rfl : y0 = x0 := by omega
      cases y3 with
      | true =>
        cases x3 with
        | true =>
          cases d with
          | false =>
            have hs := HST.out.2.2.2 (by simp [kR])
            have HS1 := Lib.hid hs.1
            have HS2 := Lib.hid hs.2
            clear hs HST
            go_wp2_with fail
            go_roundw
            case rel => exact ⟨k + 1, by go_num, by omega, by rw [HS2.out], by rw [HS1.out]; exact HOA.out, HBA.out⟩
            case measure => simp [intOf]; omega
          | true =>
            have hs := HST.out.2.2.2 (by simp [kR])
            have HS1 := Lib.hid hs.1
            have HS2 := Lib.hid hs.2
            clear hs HST
            go_wp2_with fail
            go_roundw
            case rel => exact ⟨k + 1, by go_num, by omega, by rw [HS2.out], by rw [HS1.out]; exact HOA.out, HBA.out⟩
            case measure => simp [intOf]; omega
        | false =>
          cases d with
          | false =>
            have hs := HST.out.1 (by simp [kR, flI]; omega) rfl
            have HS1 := Lib.hid hs.1
            have HS2 := Lib.hid hs.2
            clear hs HST
            go_wp2_with (first | (at_builtin; refine wpList_app_re rfl (.tmp 46) (.tmp 48) rfl w0.heap.size (.slice A5 q.length cap5) q rfl (HOA.out.alloc _) (.slice (some ⟨wr.heap.size + 1, 0, none⟩) 1 1) [(y0, x1, x2, false, x4)] rfl (rd_re1 _ (by have := Bx.new (wr.alloc (.cells #[.int .i64 y0, .int .i64 y1, .int .u32 y2, .bool true, .bool y4] 52)) 52 (reC (y0, x1, x2, false, x4)); rw [World.size_alloc] at this; exact this)) (by simp; omega) (by simp; omega) ?_; intro v3 w3 hown3 hfr3 _ hb3; have hx3 := (HX1.out.alloc (.cells #[.int .i64 y0, .int .i64 x1, .int .u32 x2, .bool false, .bool x4] 52)).fr hfr3 (fun e => by have := (HO.out.blk_lt e).1; omega); have hy3 := (HY1.out.alloc (.cells #[.int .i64 y0, .int .i64 x1, .int .u32 x2, .bool false, .bool x4] 52)).fr hfr3 (fun e => by have := (HO.out.blk_lt e).2; omega); obtain ⟨qq0, qq1, qq2, qq3, qq4⟩ := hx3.five; obtain ⟨rr0, rr1, rr2, rr3, rr4⟩ := hy3.five; have HO3 := Lib.hid hown3; have HB3 := Lib.hid ((HBA.out.alloc (by simp; omega) _).trans hb3); have hs3 := HB3.out.size; clear hown3 hfr3 hb3 hx3 hy3) | (at_builtin; refine wpList_app_re rfl (.tmp 62) (.tmp 64) rfl w0.heap.size v3 (q ++ [(y0, x1, x2, false, x4)]) rfl (HO3.out.alloc _) (.slice (some ⟨w3.heap.size, 0, none⟩) 1 1) [(y0, y1, y2, true, y4)] rfl (rd_re1 _ (Bx.new w3 52 (reC (y0, y1, y2, true, y4)))) (by simp; omega) (by simp; omega) ?_; intro v4 w4 hown4 _ _ hb4; have HO4 := Lib.hid hown4; have HB4 := Lib.hid ((HB3.out.alloc hs3 _).trans hb4); clear hown4 hb4))
            go_roundw
            case rel => exact ⟨k + 1, by go_num, by omega, by rw [HS2.out], by rw [HS1.out]; exact HO4.out, HB4.out⟩
            case measure => simp [intOf]; omega
          | true =>
            have hs := HST.out.2.1 (by simp [kR, flI]; omega) rfl
            have HS1 := Lib.hid hs.1
            have HS2 := Lib.hid hs.2
            clear hs HST
            go_wp2_with (at_builtin; refine wpList_app_re rfl (.tmp 62) (.tmp 64) rfl w0.heap.size (.slice A5 q.length cap5) q rfl (HOA.out.alloc _) (.slice (some ⟨wr.heap.size + 1, 0, none⟩) 1 1) [(y0, y1, y2, true, y4)] rfl (rd_re1 _ (by have := Bx.new (wr.alloc (.cells #[.int .i64 y0, .int .i64 y1, .int .u32 y2, .bool true, .bool y4] 52)) 52 (reC (y0, y1, y2, true, y4)); rw [World.size_alloc] at this; exact this)) (by simp; omega) (by simp; omega) ?_; intro v4 w4 hown4 _ _ hb4; have HO4 := Lib.hid hown4; have HB4 := Lib.hid ((HBA.out.alloc (by simp; omega) _).trans hb4); clear hown4 hb4)
            go_roundw
            case rel => exact ⟨k + 1, by go_num, by omega, by rw [HS2.out], by rw [HS1.out]; exact HO4.out, HB4.out⟩
            case measure => simp [intOf]; omega
      | false =>
        cases x3 with
        | true =>
          cases d with
          | false =>
            have hs := HST.out.2.2.1 (by simp [kR, flI]; omega)
            have HS1 := Lib.hid hs.1
            have HS2 := Lib.hid hs.2
            clear hs HST
            go_wp2_with (at_builtin; refine wpList_app_re rfl (.tmp 62) (.tmp 64) rfl w0.heap.size (.slice A5 q.length cap5) q rfl (HOA.out.alloc _) (.slice (some ⟨wr.heap.size + 1, 0, none⟩) 1 1) [(y0, y1, y2, false, y4)] rfl (rd_re1 _ (by have := Bx.new (wr.alloc (.cells #[.int .i64 y0, .int .i64 y1, .int .u32 y2, .bool false, .bool y4] 52)) 52 (reC (y0, y1, y2, false, y4)); rw [World.size_alloc] at this; exact this)) (by simp; omega) (by simp; omega) ?_; intro v4 w4 hown4 _ _ hb4; have HO4 := Lib.hid hown4; have HB4 := Lib.hid ((HBA.out.alloc (by simp; omega) _).trans hb4); clear hown4 hb4)
            go_roundw
            case rel => exact ⟨k + 1, by go_num, by omega, by rw [HS2.out], by rw [HS1.out]; exact HO4.out, HB4.out⟩
            case measure => simp [intOf]; omega
          | true =>
            have hs := HST.out.2.2.1 (by simp [kR, flI]; omega)
            have HS1 := Lib.hid hs.1
            have HS2 := Lib.hid hs.2
            clear hs HST
            go_wp2_with (at_builtin; refine wpList_app_re rfl (.tmp 62) (.tmp 64) rfl w0.heap.size (.slice A5 q.length cap5) q rfl (HOA.out.alloc _) (.slice (some ⟨wr.heap.size + 1, 0, none⟩) 1 1) [(y0, y1, y2, false, y4)] rfl (rd_re1 _ (by have := Bx.new (wr.alloc (.cells #[.int .i64 y0, .int .i64 y1, .int .u32 y2, .bool false, .bool y4] 52)) 52 (reC (y0, y1, y2, false, y4)); rw [World.size_alloc] at this; exact this)) (by simp; omega) (by simp; omega) ?_; intro v4 w4 hown4 _ _ hb4; have HO4 := Lib.hid hown4; have HB4 := Lib.hid ((HBA.out.alloc (by simp; omega) _).trans hb4); clear hown4 hb4)
            go_roundw
            case rel => exact ⟨k + 1, by go_num, by omega, by rw [HS2.out], by rw [HS1.out]; exact HO4.out, HB4.out⟩
            case measure => simp [intOf]; omega
        | false =>
          cases d with
          | false =>
            have hs := HST.out.2.2.2 (by simp [kR])
            have HS1 := Lib.hid hs.1
            have HS2 := Lib.hid hs.2
            clear hs HST
            go_wp2_with fail
            go_roundw
            case rel => exact ⟨k + 1, by go_num, by omega, by rw [HS2.out], by rw [HS1.out]; exact HOA.out, HBA.out⟩
            case measure => simp [intOf]; omega
          | true =>
            have hs := HST.out.2.2.2 (by simp [kR])
            have HS1 := Lib.hid hs.1
            have HS2 := Lib.hid hs.2
            clear hs HST
            go_wp2_with fail
            go_roundw
            case rel => exact ⟨k + 1, by go_num, by omega, by rw [HS2.out], by rw [HS1.out]; exact HOA.out, HBA.out⟩
            case measure => simp [intOf]; omega
    · obtain rfl : k = n := by omega
      have htk : l.take k = l := by rw [← HN.out, List.take_length]
      rw [htk] at hown hql ⊢
      have hput := ptO_put (x := (x0, x1, x2, x3, x4)) (l := l)
      have HO := Lib.hid hown
      have HB := Lib.hid hbel
      have hsw := hbel.size
      obtain ⟨q0, q1, q2, q3, q4⟩ := (HBX.out.below' hbel).five
      obtain ⟨q, hq⟩ : ∃ q, ptO (x0, x1, x2, x3, x4) l = q := ⟨_, rfl⟩
      obtain ⟨d, hd⟩ : ∃ d, ptB (x0, x1, x2, x3, x4) l = d := ⟨_, rfl⟩
      rw [hq, hd] at hput
      rw [hq] at HO hql ⊢
      rw [hd]
      have HPUT := Lib.hid hput
      clear hput hq hd hown hbel
      cases d with
      | true =>
        have HP2 : Hid (q = putR l (x0, x1, x2, x3, x4)) := HPUT.out
        clear HPUT
        go_wp2_with fail
        go_ret
        exact ⟨_, rfl, by rw [← HP2.out]; exact HO.out.mono (by have := HAL.out.size; omega), HAL.out.trans (HB.out.mono HAL.out.size)⟩
      | false =>
        have HP2 : Hid (q ++ [(x0, x1, x2, x3, x4)] = putR l (x0, x1, x2, x3, x4)) := HPUT.out
        clear HPUT
        go_wp2_with (at_builtin; refine wpList_app_re rfl (.tmp 68) (.tmp 70) rfl w0.heap.size (.slice A5 q.length cap5) q rfl (HO.out.alloc _) (.slice (some ⟨wr.heap.size, 0, none⟩) 1 1) [(x0, x1, x2, x3, x4)] rfl (rd_re1 _ (Bx.new wr 52 (reC (x0, x1, x2, x3, x4)))) (by simp; omega) (by simp; omega) ?_; intro v3 w3 hown3 _ _ hb3; have HO3 := Lib.hid hown3; have HB3 := Lib.hid hb3; clear hown3 hb3)
        go_ret
        exact ⟨_, rfl, by rw [← HP2.out]; exact HO3.out.mono (by have := HAL.out.size; omega), HAL.out.trans (((HB.out.alloc hsw _).trans HB3.out).mono HAL.out.size)⟩

end Go.Proofs.Ytncgpojjibojlaa

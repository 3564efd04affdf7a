/- sutureref17.Living, Good, sutureref19.idle, shared, Without: their contracts. -/
import Derived.Test.YtflndnbjdhbppaaTrimW
import Derived.Test.YtflndnbjdhbppaaRef12F
import Derived.Test.YtflndnbjdhbppaaAppI2
namespace Go.Proofs.Ytflndnbjdhbppaa
open Go Go.RowKit

theorem keep_alloc {w : World} {a : Addr} {v : Value} (h : w.cell? a = some v) (o : Obj) : (w.alloc o).cell? a = some v := ((below_one w o).cell (block_lt_of_cell h)).trans h
theorem heap_alloc_new2 (w : World) (o o' : Obj) : ((w.alloc o).alloc o').heap[w.heap.size + 1]? = some o' := by
  have := heap_alloc_new (w.alloc o) o'
  rw [World.size_alloc] at this
  exact this
theorem filt_take {p : Int → Bool} {h : List Int} {k : Nat} (hk : k < h.length) : (h.take (k + 1)).filter p = (h.take k).filter p ++ (if p (at_ h k) then [at_ h k] else []) := by
  rw [take_at hk, List.filter_append]
  congr 1
  by_cases hp : p (at_ h k) = true
  · simp [hp]
  · simp [hp]
theorem idlL_eq (h : List Int) (l : List Nq) (al : List Int) : (livL h al).filter (idB l) = idlL h l al := by
  unfold livL idlL
  rw [List.filter_filter]
  rfl
theorem filt_len {p : Int → Bool} {h : List Int} (k : Nat) : ((h.take k).filter p).length ≤ h.length := by
  refine Nat.le_trans (List.length_filter_le _ _) ?_
  rw [List.length_take]
  omega

set_option maxHeartbeats 1000000 in
theorem rliving_any (c0 c1 c2 : Int) (vh : Value) (h : List Int) (va : Value) (al : List Int) (w : World) (hl : h.length ≤ 1000) (hH : Rd w 1 vh h.length (h.flatMap inC)) (hA : Rd w 1 va al.length (al.flatMap inC)) :
    Calls Try.prog 69 #[.agg #[.int .i64 c0, .int .i64 c1, .int .u32 c2, vh], va] w (FreshI (livL h al) w) := by
  obtain ⟨A, cap, hv, hcap, hnc⟩ := hH.shape
  subst hv
  obtain ⟨n, hn⟩ : ∃ n, h.length = n := ⟨_, rfl⟩
  have HH := Lib.hid hH
  have HA := Lib.hid hA
  have HN := Lib.hid hn
  rw [hn] at hl hnc ⊢
  have HLV : Hid (h.filter (hasB al) = livL h al) := Lib.hid rfl
  clear hH hA hn
  go_enter Try.func69, Try.ntmps69
  go_wp2_with fail
  have hal := below_one w (.cells #[.int .i64 c0, .int .i64 c1, .int .u32 c2, .slice A n cap] 39)
  have hbc := Bx.new w 39 [.int .i64 c0, .int .i64 c1, .int .u32 c2, .slice A n cap]
  change Bx (w.alloc (.cells #[.int .i64 c0, .int .i64 c1, .int .u32 c2, .slice A n cap] 39)) _ _ _ at hbc
  have hsz : (w.alloc (.cells #[.int .i64 c0, .int .i64 c1, .int .u32 c2, .slice A n cap] 39)).heap.size = w.heap.size + 1 := World.size_alloc _ _
  generalize (w.alloc (.cells #[.int .i64 c0, .int .i64 c1, .int .u32 c2, .slice A n cap] 39)) = w0 at *
  have HAL := Lib.hid hal
  have HBC := Lib.hid hbc
  clear hal hbc
  go_loopw [5, 6] (fun s5 s6 wr => ∃ k : Nat, k ≤ n ∧ s6 = .int .i64 k ∧ Own wr w0.heap.size 3 1 s5 ((h.take k).filter (hasB al)).length (((h.take k).filter (hasB al)).flatMap inC) ∧ Below w0.heap.size w0 wr) (fun _ s6 _ => n - (intOf s6).toNat)
  case atStart => exact ⟨0, Nat.zero_le _, rfl, by simpa using Own.nil_ _ _ _ _, Below.refl _ _⟩
  case round =>
    obtain ⟨k, hk, rfl, hot, hbel⟩ := hrel
    obtain ⟨At, capt, et⟩ := hot.slice_
    subst et
    have hll := filt_len (p := hasB al) (h := h) k
    have HOT := Lib.hid hot
    have HB := Lib.hid hbel
    have hsr := hbel.size
    obtain ⟨q0, q1, q2, q3⟩ := (HBC.out.below' hbel).four
    clear hot hbel
    by_cases hlt : k < n
    · have hltI : (k : Int) < (n : Int) := by omega
      have hH1 := (HH.out.below HAL.out (Nat.le_refl _)).below HB.out (Nat.le_refl _)
      rw [HN.out] at hH1
      obtain ⟨b, off, hA', hbl⟩ := hH1.addr (by omega)
      subst hA'
      have c0' := rd_int hH1 k (by rw [HN.out]; exact hlt)
      have hft := filt_take (p := hasB al) (h := h) (k := k) (by rw [HN.out]; exact hlt)
      obtain ⟨x, hx⟩ : ∃ x, at_ h k = x := ⟨_, rfl⟩
      rw [hx] at c0' hft
      have HFT := Lib.hid hft
      clear hx hft hH1
      go_wp2_with fail
      refine (rhas_in va al x wr ((HA.out.below HAL.out (Nat.le_refl _)).below HB.out (Nat.le_refl _))).mono ?_
      rintro e w' ⟨rfl, rfl⟩
      obtain ⟨bh, hbh⟩ : ∃ b, hasB al x = b := ⟨_, rfl⟩
      rw [hbh] at HFT ⊢
      clear hbh
      cases bh with
      | false =>
        go_wp2_with fail
        go_roundw
        case rel => exact ⟨k + 1, by omega, by go_num, by have e1 := HFT.out; simp only [Bool.false_eq_true, if_false, List.append_nil] at e1; rw [e1]; exact HOT.out, HB.out⟩
        case measure => simp [intOf]; omega
      | true =>
        go_wp2_with (at_builtin; refine wpList_app_in2 rfl (.tmp 23) (.tmp 29) rfl w0.heap.size _ _ rfl (HOT.out.alloc _) (.slice (some ⟨wr.heap.size, 0, none⟩) 1 1) [x] rfl (rd_one (t := 3) (heap_alloc_new _ _) rfl) (by rw [HN.out] at hll; simp; omega) (by simp; omega) ?_; intro vt4 w4 hown4 hfr4 _ hb4; have HO4 := Lib.hid hown4; have HB4 := Lib.hid hb4; clear hown4 hfr4 hb4)
        go_roundw
        case rel => exact ⟨k + 1, by omega, by go_num, by have e1 := HFT.out; simp only [if_true] at e1; rw [e1]; exact HO4.out, HB.out.trans (((below_one wr _).mono hsr).trans HB4.out)⟩
        case measure => simp [intOf]; omega
    · obtain rfl : k = n := by omega
      go_wp2_with fail
      go_ret
      refine ⟨_, rfl, ?_, HAL.out.trans (HB.out.mono (by omega))⟩
      have h1 := HOT.out.mono (base' := w.heap.size) (by omega)
      have e1 : (h.take k).filter (hasB al) = livL h al := by rw [← HN.out, List.take_length]; exact HLV.out
      rw [← e1]
      exact h1

set_option maxHeartbeats 1000000 in
theorem rgood_any (c0 c1 c2 : Int) (vh : Value) (h : List Int) (vn : Value) (l : List Nq) (va : Value) (al : List Int) (w : World) (hl : h.length ≤ 1000) (hH : Rd w 1 vh h.length (h.flatMap inC)) (hN : Rd w 4 vn l.length (l.flatMap noC)) (hA : Rd w 1 va al.length (al.flatMap inC)) :
    Calls Try.prog 52 #[.agg #[.int .i64 c0, .int .i64 c1, .int .u32 c2, vh], vn, va] w (FreshI (goodL h l al) w) := by
  obtain ⟨A, cap, hv, hcap, hnc⟩ := hH.shape
  subst hv
  have HH := Lib.hid hH
  have HA := Lib.hid hA
  have HN := Lib.hid hN
  have hpe : ∀ z, servB l z = (findL l z).any (fun x => x.2.2.2 == 0) := fun _ => rfl
  have HPE := Lib.hid hpe
  have HLV : Hid ((livL h al).filter (servB l) = goodL h l al) := Lib.hid (rfl)
  have hll := livL_len h al
  clear hH hA hN hpe
  go_enter Try.func52, Try.ntmps52
  go_wp2_with fail
  have hal := below_one w (.cells #[.int .i64 c0, .int .i64 c1, .int .u32 c2, .slice A h.length cap] 39)
  have hsz : (w.alloc (.cells #[.int .i64 c0, .int .i64 c1, .int .u32 c2, .slice A h.length cap] 39)).heap.size = w.heap.size + 1 := World.size_alloc _ _
  generalize (w.alloc (.cells #[.int .i64 c0, .int .i64 c1, .int .u32 c2, .slice A h.length cap] 39)) = w0 at *
  refine (rliving_any c0 c1 c2 _ h va al w0 hl (HH.out.below hal (Nat.le_refl _)) (HA.out.below hal (Nat.le_refl _))).mono ?_
  rintro e w1 ⟨v1, rfl, ho1, hb1⟩
  obtain ⟨A1, cap1, e1⟩ := ho1.slice_
  subst e1
  obtain ⟨g, hg⟩ : ∃ g, livL h al = g := ⟨_, rfl⟩
  rw [hg] at ho1 hll HLV ⊢
  obtain ⟨n, hn⟩ : ∃ n, g.length = n := ⟨_, rfl⟩
  rw [hn] at ho1 hll ⊢
  have HG := Lib.hid hn
  have HAL := Lib.hid (below_then hal hb1)
  have HO1 := Lib.hid ho1.rd
  have hs1 := hb1.size
  have hn63 : n ≤ 9223372036854775807 := by omega
  clear hal ho1 hb1 hg hn
  go_wp2_with fail
  go_loopw [8, 9] (fun s8 s9 wr => ∃ k : Nat, k ≤ n ∧ s9 = .int .i64 k ∧ Own wr w1.heap.size 3 1 s8 ((g.take k).filter (servB l)).length (((g.take k).filter (servB l)).flatMap inC) ∧ Below w1.heap.size w1 wr) (fun _ s9 _ => n - (intOf s9).toNat)
  case atStart => exact ⟨0, Nat.zero_le _, rfl, by simpa using Own.nil_ _ _ _ _, Below.refl _ _⟩
  case round =>
    obtain ⟨k, hk, rfl, hot, hbel⟩ := hrel
    obtain ⟨At, capt, et⟩ := hot.slice_
    subst et
    have hft0 := filt_len (p := servB l) (h := g) k
    have HOT := Lib.hid hot
    have HB := Lib.hid hbel
    have hsr := hbel.size
    clear hot hbel
    by_cases hlt : k < n
    · have hltI : (k : Int) < (n : Int) := by omega
      have hH1 := HO1.out.below HB.out (Nat.le_refl _)
      obtain ⟨b, off, hA', hbl⟩ := hH1.addr (by omega)
      subst hA'
      have c0' := rd_int hH1 k (by rw [HG.out]; exact hlt)
      have hft := filt_take (p := servB l) (h := g) (k := k) (by rw [HG.out]; exact hlt)
      obtain ⟨x, hx⟩ : ∃ x, at_ g k = x := ⟨_, rfl⟩
      rw [hx] at c0' hft
      rw [HPE.out x] at hft
      have HFT := Lib.hid hft
      clear hx hft hH1
      go_wp2_with fail
      refine (refFind_any vn l x wr ((HN.out.below HAL.out (by omega)).below HB.out (Nat.le_refl _))).mono ?_
      rintro e w2 ⟨rfl, hb2⟩
      obtain ⟨o, ho⟩ : ∃ o, findL l x = o := ⟨_, rfl⟩
      rw [ho] at HFT ⊢
      have c1' := (hb2.cell (p := ⟨b, off + k, none⟩) (by show b < wr.heap.size; omega)).trans c0'
      have HB2 := Lib.hid (HB.out.trans (hb2.mono hsr))
      have hs2 := hb2.size
      have HOT2 := Lib.hid (HOT.out.below hb2 (Nat.le_refl _))
      clear ho hb2 c0'
      cases o with
      | none =>
        simp only [optN, noV, Option.getD_none, Option.isSome_none]
        go_wp2_with fail
        go_roundw
        case rel => exact ⟨k + 1, by omega, by go_num, by have e1 := HFT.out; simp only [Option.any_none, Bool.false_eq_true, if_false, List.append_nil] at e1; rw [e1]; exact HOT2.out.alloc _, HB2.out.alloc (by omega) _⟩
        case measure => simp [intOf]; omega
      | some y =>
        obtain ⟨y0, y1, y2, y3⟩ := y
        simp only [optN, noV, Option.getD_some, Option.isSome_some]
        have c2' := (keep_alloc c1' (.cells #[.int .i64 y0, .int .i64 y1, .int .i64 y2, .int .i64 y3] 58))
        by_cases hy : y3 = 0
        · subst hy
          have hy2 : ((0 : Int) == 0) = true := by decide
          go_wp2_with (at_builtin; refine wpList_app_in2 rfl (.tmp 36) (.tmp 41) rfl w1.heap.size _ _ rfl ((HOT2.out.alloc _).alloc _) (.slice (some ⟨w2.heap.size + 1, 0, none⟩) 1 1) [x] rfl (rd_one (t := 3) (heap_alloc_new2 _ _ _) rfl) (by rw [HG.out] at hft0; simp; omega) (by simp; omega) ?_; intro vt4 w4 hown4 hfr4 _ hb4; have HO4 := Lib.hid hown4; have HB4 := Lib.hid hb4; clear hown4 hfr4 hb4)
          go_roundw
          case rel => exact ⟨k + 1, by omega, by go_num, by have e1 := HFT.out; simp only [Option.any_some, hy2, if_true] at e1; rw [e1]; exact HO4.out, (HB2.out.trans ((below2 w2 _ _).mono (by omega))).trans HB4.out⟩
          case measure => simp [intOf]; omega
        · have hy' : (y3 == 0) = false := by simpa using hy
          have hy2 : (y3 != 0) = true := by simpa using hy
          go_wp2_with fail
          go_roundw
          case rel => exact ⟨k + 1, by omega, by go_num, by have e1 := HFT.out; simp only [Option.any_some, hy', Bool.false_eq_true, if_false, List.append_nil] at e1; rw [e1]; exact HOT2.out.alloc _, HB2.out.alloc (by omega) _⟩
          case measure => simp [intOf]; omega
    · obtain rfl : k = n := by omega
      go_wp2_with fail
      go_ret
      refine ⟨_, rfl, ?_, HAL.out.trans (HB.out.mono (by omega))⟩
      have h1 := HOT.out.mono (base' := w.heap.size) (by omega)
      have e1 : (g.take k).filter (servB l) = goodL h l al := by rw [← HG.out, List.take_length]; exact HLV.out
      rw [← e1]
      exact h1

set_option maxHeartbeats 1000000 in
theorem ridle_any (c0 c1 c2 : Int) (vh : Value) (h : List Int) (vn : Value) (l : List Nq) (va : Value) (al : List Int) (w : World) (hl : h.length ≤ 1000) (hH : Rd w 1 vh h.length (h.flatMap inC)) (hN : Rd w 4 vn l.length (l.flatMap noC)) (hA : Rd w 1 va al.length (al.flatMap inC)) :
    Calls Try.prog 53 #[.agg #[.int .i64 c0, .int .i64 c1, .int .u32 c2, vh], vn, va] w (FreshI (idlL h l al) w) := by
  obtain ⟨A, cap, hv, hcap, hnc⟩ := hH.shape
  subst hv
  have HH := Lib.hid hH
  have HA := Lib.hid hA
  have HN := Lib.hid hN
  have hpe : ∀ z, idB l z = (findL l z).any (fun x => x.2.2.2 != 0) := fun _ => rfl
  have HPE := Lib.hid hpe
  have HLV : Hid ((livL h al).filter (idB l) = idlL h l al) := Lib.hid (idlL_eq h l al)
  have hll := livL_len h al
  clear hH hA hN hpe
  go_enter Try.func53, Try.ntmps53
  go_wp2_with fail
  have hal := below_one w (.cells #[.int .i64 c0, .int .i64 c1, .int .u32 c2, .slice A h.length cap] 39)
  have hsz : (w.alloc (.cells #[.int .i64 c0, .int .i64 c1, .int .u32 c2, .slice A h.length cap] 39)).heap.size = w.heap.size + 1 := World.size_alloc _ _
  generalize (w.alloc (.cells #[.int .i64 c0, .int .i64 c1, .int .u32 c2, .slice A h.length cap] 39)) = w0 at *
  refine (rliving_any c0 c1 c2 _ h va al w0 hl (HH.out.below hal (Nat.le_refl _)) (HA.out.below hal (Nat.le_refl _))).mono ?_
  rintro e w1 ⟨v1, rfl, ho1, hb1⟩
  obtain ⟨A1, cap1, e1⟩ := ho1.slice_
  subst e1
  obtain ⟨g, hg⟩ : ∃ g, livL h al = g := ⟨_, rfl⟩
  rw [hg] at ho1 hll HLV ⊢
  obtain ⟨n, hn⟩ : ∃ n, g.length = n := ⟨_, rfl⟩
  rw [hn] at ho1 hll ⊢
  have HG := Lib.hid hn
  have HAL := Lib.hid (below_then hal hb1)
  have HO1 := Lib.hid ho1.rd
  have hs1 := hb1.size
  have hn63 : n ≤ 9223372036854775807 := by omega
  clear hal ho1 hb1 hg hn
  go_wp2_with fail
  go_loopw [8, 9] (fun s8 s9 wr => ∃ k : Nat, k ≤ n ∧ s9 = .int .i64 k ∧ Own wr w1.heap.size 3 1 s8 ((g.take k).filter (idB l)).length (((g.take k).filter (idB l)).flatMap inC) ∧ Below w1.heap.size w1 wr) (fun _ s9 _ => n - (intOf s9).toNat)
  case atStart => exact ⟨0, Nat.zero_le _, rfl, by simpa using Own.nil_ _ _ _ _, Below.refl _ _⟩
  case round =>
    obtain ⟨k, hk, rfl, hot, hbel⟩ := hrel
    obtain ⟨At, capt, et⟩ := hot.slice_
    subst et
    have hft0 := filt_len (p := idB l) (h := g) k
    have HOT := Lib.hid hot
    have HB := Lib.hid hbel
    have hsr := hbel.size
    clear hot hbel
    by_cases hlt : k < n
    · have hltI : (k : Int) < (n : Int) := by omega
      have hH1 := HO1.out.below HB.out (Nat.le_refl _)
      obtain ⟨b, off, hA', hbl⟩ := hH1.addr (by omega)
      subst hA'
      have c0' := rd_int hH1 k (by rw [HG.out]; exact hlt)
      have hft := filt_take (p := idB l) (h := g) (k := k) (by rw [HG.out]; exact hlt)
      obtain ⟨x, hx⟩ : ∃ x, at_ g k = x := ⟨_, rfl⟩
      rw [hx] at c0' hft
      rw [HPE.out x] at hft
      have HFT := Lib.hid hft
      clear hx hft hH1
      go_wp2_with fail
      refine (refFind_any vn l x wr ((HN.out.below HAL.out (by omega)).below HB.out (Nat.le_refl _))).mono ?_
      rintro e w2 ⟨rfl, hb2⟩
      obtain ⟨o, ho⟩ : ∃ o, findL l x = o := ⟨_, rfl⟩
      rw [ho] at HFT ⊢
      have c1' := (hb2.cell (p := ⟨b, off + k, none⟩) (by show b < wr.heap.size; omega)).trans c0'
      have HB2 := Lib.hid (HB.out.trans (hb2.mono hsr))
      have hs2 := hb2.size
      have HOT2 := Lib.hid (HOT.out.below hb2 (Nat.le_refl _))
      clear ho hb2 c0'
      cases o with
      | none =>
        simp only [optN, noV, Option.getD_none, Option.isSome_none]
        go_wp2_with fail
        go_roundw
        case rel => exact ⟨k + 1, by omega, by go_num, by have e1 := HFT.out; simp only [Option.any_none, Bool.false_eq_true, if_false, List.append_nil] at e1; rw [e1]; exact HOT2.out.alloc _, HB2.out.alloc (by omega) _⟩
        case measure => simp [intOf]; omega
      | some y =>
        obtain ⟨y0, y1, y2, y3⟩ := y
        simp only [optN, noV, Option.getD_some, Option.isSome_some]
        have c2' := (keep_alloc c1' (.cells #[.int .i64 y0, .int .i64 y1, .int .i64 y2, .int .i64 y3] 58))
        by_cases hy : y3 = 0
        · subst hy
          have hy2 : ((0 : Int) != 0) = false := by decide
          go_wp2_with fail
          go_roundw
          case rel => exact ⟨k + 1, by omega, by go_num, by have e1 := HFT.out; simp only [Option.any_some, hy2, Bool.false_eq_true, if_false, List.append_nil] at e1; rw [e1]; exact HOT2.out.alloc _, HB2.out.alloc (by omega) _⟩
          case measure => simp [intOf]; omega
        · have hy' : (y3 == 0) = false := by simpa using hy
          have hy2 : (y3 != 0) = true := by simpa using hy
          go_wp2_with (at_builtin; refine wpList_app_in2 rfl (.tmp 36) (.tmp 41) rfl w1.heap.size _ _ rfl ((HOT2.out.alloc _).alloc _) (.slice (some ⟨w2.heap.size + 1, 0, none⟩) 1 1) [x] rfl (rd_one (t := 3) (heap_alloc_new2 _ _ _) rfl) (by rw [HG.out] at hft0; simp; omega) (by simp; omega) ?_; intro vt4 w4 hown4 hfr4 _ hb4; have HO4 := Lib.hid hown4; have HB4 := Lib.hid hb4; clear hown4 hfr4 hb4)
          go_roundw
          case rel => exact ⟨k + 1, by omega, by go_num, by have e1 := HFT.out; simp only [Option.any_some, hy2, if_true] at e1; rw [e1]; exact HO4.out, (HB2.out.trans ((below2 w2 _ _).mono (by omega))).trans HB4.out⟩
          case measure => simp [intOf]; omega
    · obtain rfl : k = n := by omega
      go_wp2_with fail
      go_ret
      refine ⟨_, rfl, ?_, HAL.out.trans (HB.out.mono (by omega))⟩
      have h1 := HOT.out.mono (base' := w.heap.size) (by omega)
      have e1 : (g.take k).filter (idB l) = idlL h l al := by rw [← HG.out, List.take_length]; exact HLV.out
      rw [← e1]
      exact h1

end Go.Proofs.Ytflndnbjdhbppaa

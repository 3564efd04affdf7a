/- slices.Insert at api.Replica: its contract. -/
import Derived.Test.YtncgpojjibojlaaInsq
import Derived.Test.YtncgpojjibojlaaGaq
import Derived.Test.YtncgpojjibojlaaCmp1q
namespace Go.Proofs.Ytncgpojjibojlaa
open Go Go.RowKit

theorem info_re : (Try.prog.info? 52).map (fun i => (i.zero, i.size, i.bytes)) = some (some (.agg #[.int .i64 0, .int .i64 0, .int .u32 0, .bool false, .bool false]), 5, 24) := by kernel_rfl
theorem size_re : (Try.prog.info? 52).map (·.size) = some 5 := by kernel_rfl
theorem sizeOf_re (w : World) : (Go.sizeOf 52).run Try.prog w = .ok 5 w := by kernel_rfl

def InsE_re (base : Nat) (v : Value) (l : List Re) (w : World) (e : Ending) (w' : World) : Prop :=
  ∃ v', e = .returned v' ∧ Own w' base 52 5 v' l.length (l.flatMap reC) ∧ Fr (fun k => blk v = some k) w w' ∧ (blk v' = blk v ∨ ∃ k, blk v' = some k ∧ w.heap.size ≤ k)

theorem flat_ins_re (l : List Re) (i : Nat) (x : Re) : (l.take i ++ x :: l.drop i).flatMap reC = (l.flatMap reC).take (i * 5) ++ reC x ++ (l.flatMap reC).drop (i * 5) := by
  rw [flat_take reC 5 reC_len, flat_drop reC 5 reC_len]
  simp

set_option maxHeartbeats 2000000 in
set_option maxRecDepth 100000 in
theorem insert_end_re (base : Nat) (v : Value) (l : List Re) (x : Re) (vb : Nat) (w : World) (hl : l.length ≤ 1000) (hown : Own w base 52 5 v l.length (l.flatMap reC)) (hbx : Bx w vb 52 (reC x)) (hbase : base ≤ w.heap.size) :
    Calls Try.prog 94 #[v, .int .i64 (l.length : Int), .slice (some ⟨vb, 0, none⟩) 1 1] w (InsE_re base v (l ++ [x]) w) := by
  obtain ⟨ii, hii, hz0, hz1, hz2⟩ := info_parts info_re
  obtain ⟨A, cap, hv⟩ := hown.slice_
  subst hv
  have HO := Lib.hid hown
  have HX := Lib.hid hbx
  obtain ⟨n, hn⟩ : ∃ n, l.length = n := ⟨_, rfl⟩
  have HN := Lib.hid hn
  rw [hn] at hl ⊢
  have hO2 : Own w base 52 5 (.slice A n cap) n (l.flatMap reC) := by have := HO.out; rw [hn] at this; exact this
  have HO2 := Lib.hid hO2
  have hnc : n ≤ cap := by
    rcases hO2.2 with ⟨A', hv, h0⟩ | ⟨g, off, cap', cur, hv, _, _, _, h4, _⟩
    · omega
    · injection hv with h1 h2 h3; omega
  have hcm : cap ≤ 9223372036854775807 := by
    rcases hO2.2 with ⟨A', hv, h0⟩ | ⟨g, off, cap', cur, hv, _, _, _, h4, h5, _⟩
    · injection hv with h1 h2 h3; omega
    · injection hv with h1 h2 h3; unfold maxLen at h5; omega
  clear hown hbx hn hO2
  have fin : ∀ v1 w1, Own w1 base 52 5 v1 (n + 1) (l.flatMap reC ++ reC x) → Fr (fun k => blk (.slice A n cap) = some k) w w1 → (blk v1 = blk (.slice A n cap) ∨ blk v1 = some w.heap.size) → InsE_re base (.slice A n cap) (l ++ [x]) w (.returned v1) w1 := fun v1 w1 h1 h2 h3 => by
    refine ⟨v1, rfl, ?_, h2, h3.imp id (fun h => ⟨_, h, Nat.le_refl _⟩)⟩
    rw [List.length_append, HN.out, List.flatMap_append, flat_one]
    exact h1
  have FIN := Lib.hid fin
  clear fin
  cases A with
  | none =>
    go_enter Try.func94, Try.ntmps94
    go_wp2_with (at_builtin; refine wpList_append_seg rfl _ _ 41 rfl base 52 ii _ 5 24 (by kernel_rfl) hii hz0 hz1 hz2 rfl (by omega) (.slice none n cap) n (l.flatMap reC) rfl HO2.out (.slice (some ⟨vb, 0, none⟩) 1 1) 1 (reC x) rfl (rd_one (t := 52) HX.out rfl) (fun u hu => reC_one [x] u (by simpa using hu)) (by unfold maxLen; omega) (by omega) hbase ?_; intro v1 w1 hown1 hfr1 hb1 _; have HN1 := Lib.hid (And.intro hown1 (And.intro hfr1 hb1)); clear hown1 hfr1 hb1)
    all_goals go_ret
    all_goals exact FIN.out _ _ HN1.out.1 HN1.out.2.1 HN1.out.2.2
  | some a =>
    by_cases hcn : cap = n
    · obtain rfl : n = cap := hcn.symm
      go_enter Try.func94, Try.ntmps94
      go_wp2_with (at_builtin; refine wpList_append_seg rfl _ _ 41 rfl base 52 ii _ 5 24 (by kernel_rfl) hii hz0 hz1 hz2 rfl (by omega) _ _ _ rfl HO2.out (.slice (some ⟨vb, 0, none⟩) 1 1) 1 (reC x) rfl (rd_one (t := 52) HX.out rfl) (fun u hu => reC_one [x] u (by simpa using hu)) (by unfold maxLen; omega) (by omega) hbase ?_; intro v1 w1 hown1 hfr1 hb1 _; have HN1 := Lib.hid (And.intro hown1 (And.intro hfr1 hb1)); clear hown1 hfr1 hb1)
      all_goals go_ret
      all_goals exact FIN.out _ _ HN1.out.1 HN1.out.2.1 HN1.out.2.2
    · have hcn' : (cap == n) = false := by simpa using hcn
      go_enter Try.func94, Try.ntmps94
      go_wp2_with (at_builtin; refine wpList_append_seg rfl _ _ 41 rfl base 52 ii _ 5 24 (by kernel_rfl) hii hz0 hz1 hz2 rfl (by omega) _ _ _ rfl HO2.out (.slice (some ⟨vb, 0, none⟩) 1 1) 1 (reC x) rfl (rd_one (t := 52) HX.out rfl) (fun u hu => reC_one [x] u (by simpa using hu)) (by unfold maxLen; omega) (by omega) hbase ?_; intro v1 w1 hown1 hfr1 hb1 _; have HN1 := Lib.hid (And.intro hown1 (And.intro hfr1 hb1)); clear hown1 hfr1 hb1)
      all_goals go_ret
      all_goals exact FIN.out _ _ HN1.out.1 HN1.out.2.1 HN1.out.2.2

set_option maxHeartbeats 4000000 in
set_option maxRecDepth 100000 in
theorem insert_grow_re (base g off : Nat) (l : List Re) (x : Re) (i vb : Nat) (w : World) (hl : l.length ≤ 1000) (hi : i < l.length) (hown : Own w base 52 5 (.slice (some ⟨g, off, none⟩) l.length l.length) l.length (l.flatMap reC)) (hbx : Bx w vb 52 (reC x)) (hbase : base ≤ w.heap.size) :
    Calls Try.prog 94 #[.slice (some ⟨g, off, none⟩) l.length l.length, .int .i64 i, .slice (some ⟨vb, 0, none⟩) 1 1] w (InsE_re base (.slice (some ⟨g, off, none⟩) l.length l.length) (l.take i ++ x :: l.drop i) w) := by
  obtain ⟨ii, hii, hz0, hz1, hz2⟩ := info_parts info_re
  have HO := Lib.hid hown
  have HX := Lib.hid hbx
  have HL : Hid ((l.take i ++ x :: l.drop i).length = l.length + 1) := by show (l.take i ++ x :: l.drop i).length = l.length + 1; simp; omega
  have HXL : Hid ((l.flatMap reC).length = l.length * 5) := flat_len reC 5 reC_len l
  have hgl := (hown.lt (by omega)).2
  have hgb := (hown.lt (by omega)).1
  have hvl := hbx.lt
  obtain ⟨n, hn⟩ : ∃ n, l.length = n := ⟨_, rfl⟩
  rw [hn] at hl hi HO HL HXL ⊢
  clear hown hbx hn
  have hiI : (i : Int) < (n : Int) := by omega
  have hin : ((i : Int) == (n : Int)) = false := by simpa using (by omega : ¬ (i : Int) = (n : Int))
  have hcI : (n : Int) < (n : Int) + 1 := by omega
  go_enter Try.func94, Try.ntmps94
  have hk1 : i ≤ n + 1 := by omega
  have hsC : (Try.prog.info? 52).map (·.size) = some 5 := size_re
  have HSC := Lib.hid hsC
  clear hsC
  go_wp2_with (first
    | (at_builtin; refine wpList_append_zeros rfl _ _ 41 3 rfl ii _ 24 (by kernel_rfl) (by kernel_rfl) hii hz0 hz1 hz2 rfl (by omega) HO.out hbase i (n + 1 - i) (n + 1) (by omega) (by omega) (by omega) (by omega) rfl _ rfl (by omega) (by unfold maxLen; omega) (by omega) ?_; intro G w1 hG1 hG2 hown1 hfr1 hs1; have HO1 := Lib.hid hown1; have HF1 := Lib.hid hfr1; have HX1 := Lib.hid (HX.out.fr hfr1 id); have HO01 := Lib.hid (HO.out.fr hfr1 (fun _ _ h => h)); have hG3 : G ≤ 9223372036854775807 := (by unfold maxLen at hG2; omega); have hGi : (G == i) = false := (by simpa using (by omega : ¬ G = i)); clear hown1 hfr1 hG2)
    | (with_reducible refine wpList_copy_own (j := i * 5) (oj := i * 5) (cs := reC x) (sb := vb) (so := 0) (sl := 1) (sc := 1) (dl := n + 1 - i) (dc := G - i) rfl (.tmp 43) (.tmp 44) 41 41 rfl (by kernel_rfl) HSC.out HO1.out ?c1 ?c2 rfl rfl ?c3 ?c4 ?c5 ?c6 ?c7))
  case c1 => omega
  case c2 => omega
  case c3 => rw [show Nat.min 1 (n + 1 - i) = 1 from Nat.min_eq_left (by omega), reC_len]
  case c4 => rw [reC_len]; omega
  case c5 => intro k u hk; rw [Nat.zero_add, HX1.out.cell]; exact hk
  case c6 => exact fun u hu => reC_one [x] u (by simpa using hu)
  case c7 =>
    intro w2 hown2 hfr2
    have HO2 := Lib.hid hown2
    have HF2 := Lib.hid (HF1.out.trans hfr2 (fun k hk => .inr (by omega)))
    have HO02 := Lib.hid (HO01.out.fr hfr2 (fun k hk e => by
      have h1 := (HO.out.blk_lt hk).2
      omega))
    have hs2 := hfr2.size
    clear hown2 hfr2
    have hi1I : (i : Int) + 1 ≤ (n : Int) + 1 := by omega
    have hGi1 : (G == i + 1) = false := by simpa using (by omega : ¬ G = i + 1)
    go_wp2_with fail
    refine wp_region_mid (C := fun w' => ∃ n, w' = World.drewN _ n) [] 8 1 (by kernel_rfl) (by kernel_rfl) ⟨1, rfl⟩ ?_
    simp only [List.foldl_nil, List.take_succ_cons, List.take_zero, List.drop_succ_cons, List.drop_zero, takeMoves]
    repeat (go_big_quiet_step (fail))
    refine wpQuiet_nil ?_
    intro _ hw'
    obtain ⟨nq, hw''⟩ := hw'
    subst hw''
    have HO3 := Lib.hid (HO2.out.drewN nq)
    have HO03 := Lib.hid (HO02.out.drewN nq)
    refine wpList_copy_own (j := (i + 1) * 5) (cs := (l.flatMap reC).drop (i * 5)) rfl (.tmp 50) (.tmp 53) 41 41 rfl (by kernel_rfl) HSC.out HO3.out (by omega) _ _ _ ?d1 _ _ _ _ rfl rfl ?d2 ?d3 ?d4 ?d5 ?d6
    case d1 => first | rfl | omega
    case d2 =>
      have := HXL.out
      rw [List.length_drop, this, ← Nat.sub_mul]
      congr 1
      simp only [Nat.min_def]
      split <;> omega
    case d3 =>
      have := HXL.out
      rw [List.length_drop, this]
      omega
    case d4 =>
      intro k u hk
      rw [List.getElem?_drop] at hk
      rw [Nat.add_assoc]
      exact HO03.out.cells _ _ hk
    case d5 => exact fun u hu => reC_one l u (List.mem_of_mem_drop hu)
    case d6 =>
      intro w4 hown4 hfr4
      have HO4 := Lib.hid hown4
      have HF4 := Lib.hid ((HF2.out.thenDrewN nq).trans hfr4 (fun k hk => .inr (by omega)))
      clear hown4 hfr4
      go_wp2_with fail
      refine thenQuiet_normal ?_
      refine wpQuiet_nil ?_
      intro _ hw'
      obtain ⟨nq2, hw''⟩ := hw'
      subst hw''
      refine noPanic_normal ?_
      go_wp2_with fail
      go_ret
      have HO5 := HO4.out.drewN nq2
      refine ⟨_, rfl, ?_, (HF4.out.thenDrewN nq2).weak (fun k hk => hk.elim), .inr ⟨w.heap.size, ?_, Nat.le_refl _⟩⟩
      · rw [HL.out, flat_ins_re]
        have e1 := ins_fresh (l.flatMap reC) (Builtin.zeroCells ((.agg #[.int .i64 0, .int .i64 0, .int .u32 0, .bool false, .bool false]) : Value).cells (n + 1 - i)).toList (reC x) (i * 5) 5 (n * 5) HXL.out (by omega) (by rw [Array.length_toList, size_zeroCells]; show (n + 1 - i) * 5 = _; omega) (reC_len x)
        rw [← e1]
        rw [show (i + 1) * 5 = i * 5 + 5 by omega] at HO5
        exact HO5
      · obtain ⟨c, rfl⟩ : ∃ c, G = c + 1 := ⟨G - 1, by omega⟩
        rfl

set_option maxHeartbeats 4000000 in
set_option maxRecDepth 100000 in
theorem insert_shift_re (base g off cap : Nat) (l : List Re) (x : Re) (i vb : Nat) (w : World) (hl : l.length ≤ 1000) (hi : i < l.length) (hroom : l.length + 1 ≤ cap) (hown : Own w base 52 5 (.slice (some ⟨g, off, none⟩) l.length cap) l.length (l.flatMap reC)) (hbx : Bx w vb 52 (reC x)) (hvg : vb ≠ g) :
    Calls Try.prog 94 #[.slice (some ⟨g, off, none⟩) l.length cap, .int .i64 i, .slice (some ⟨vb, 0, none⟩) 1 1] w (InsE_re base (.slice (some ⟨g, off, none⟩) l.length cap) (l.take i ++ x :: l.drop i) w) := by
  have HX := Lib.hid hbx
  have HL : Hid ((l.take i ++ x :: l.drop i).length = l.length + 1) := by show (l.take i ++ x :: l.drop i).length = l.length + 1; simp; omega
  have HXL : Hid ((l.flatMap reC).length = l.length * 5) := flat_len reC 5 reC_len l
  obtain ⟨cur, hcur⟩ := hown.blk_elem (g := g) (by obtain ⟨c, rfl⟩ : ∃ c, cap = c + 1 := ⟨cap - 1, by omega⟩; rfl)
  have hcs : cur.size ≠ 0 := by
    rcases hown.2 with ⟨A', hv, h0⟩ | ⟨g', off', cap', cur', hv, _, hg', hc', _, _, hs', _⟩
    · omega
    · injection hv with h1 h2 h3
      injection h1 with h1
      injection h1 with h4 h5
      subst h4
      rw [hcur] at hg'
      injection hg' with hg'
      injection hg' with hg'
      subst hg'
      omega
  have hcm : cap ≤ 9223372036854775807 := by
    rcases hown.2 with ⟨A', hv, h0⟩ | ⟨g', off', cap', cur', hv, _, _, _, _, h5, _⟩
    · omega
    · injection hv with h1 h2 h3; unfold maxLen at h5; omega
  obtain ⟨sp, hspl, hlong⟩ := hown.longer 1 hroom (by omega)
  rw [Nat.one_mul] at hspl
  have hov : ∀ o lb cb, (callFunc 102 #[.slice (some ⟨vb, 0, none⟩) 1 1, .slice (some ⟨g, o, none⟩) lb cb]).run Try.prog w = .ok (.value (.bool false)) w := fun o lb cb => by
    rw [run_callFunc_extern Try.func102 (by kernel_rfl) (by kernel_rfl) (by kernel_rfl) (e := Extern.SlicesOverlaps.overlaps #[41, 41] #[4]) (by kernel_rfl),
      Lib.run_overlaps_apart w 41 4 52 Try.underlying41 5 sizeOf_re ⟨vb, 0, none⟩ ⟨g, o, none⟩ 1 1 lb cb hvg 52 52 _ _ (shape_of hbx) (shape_of hcur) hcs (hbx.frozen _) (hbx.frozen _)]
    rfl
  have HOV := Lib.hid hov
  have HO := Lib.hid hlong
  have HF0 := Lib.hid hown
  obtain ⟨n, hn⟩ : ∃ n, l.length = n := ⟨_, rfl⟩
  rw [hn] at hl hi hroom HO HL HXL HF0 ⊢
  have HSP := Lib.hid hspl
  clear hown hbx hn hov hcur hcs hlong hspl
  have hiI : (i : Int) < (n : Int) := by omega
  have hin : ((i : Int) == (n : Int)) = false := by simpa using (by omega : ¬ (i : Int) = (n : Int))
  have hcI : ¬ (cap : Int) < (n : Int) + 1 := by omega
  have hcd : decide ((cap : Int) < (n : Int) + 1) = false := decide_eq_false hcI
  have hci : (cap == i) = false := by simpa using (by omega : ¬ cap = i)
  have hci1 : (cap == i + 1) = false := by simpa using (by omega : ¬ cap = i + 1)
  have hi1I : (i : Int) + 1 ≤ (n : Int) + 1 := by omega
  go_enter Try.func94, Try.ntmps94
  have HSC := Lib.hid size_re
  go_wp2_with (simp only [HOV.out])
  refine wp_region_mid (C := fun w' => ∃ n, w' = World.drewN _ n) [] 8 1 (by kernel_rfl) (by kernel_rfl) ⟨1, rfl⟩ ?_
  simp only [List.foldl_nil, List.take_succ_cons, List.take_zero, List.drop_succ_cons, List.drop_zero, takeMoves]
  repeat (go_big_quiet_step (fail))
  refine wpQuiet_nil ?_
  intro _ hw'
  obtain ⟨nq, hw''⟩ := hw'
  subst hw''
  have HO3 := Lib.hid (HO.out.drewN nq)
  refine wpList_copy_own (j := (i + 1) * 5) (cs := (l.flatMap reC).drop (i * 5)) rfl (.tmp 73) (.tmp 76) 41 41 rfl (by kernel_rfl) HSC.out HO3.out (by omega) _ _ _ ?d1 _ _ _ _ rfl rfl ?d2 ?d3 ?d4 ?d5 ?d6
  case d1 => first | rfl | omega
  case d2 =>
    have := HXL.out
    rw [List.length_drop, this, ← Nat.sub_mul]
    congr 1
    simp only [Nat.min_def]
    split <;> omega
  case d3 =>
    have := HXL.out
    rw [List.length_drop, this]
    omega
  case d4 =>
    intro k u hk
    rw [List.getElem?_drop] at hk
    rw [Nat.add_assoc]
    refine HO3.out.cells _ _ ?_
    rw [List.getElem?_append_left (List.getElem?_eq_some_iff.1 hk).1]
    exact hk
  case d5 => exact fun u hu => reC_one l u (List.mem_of_mem_drop hu)
  case d6 =>
    intro w4 hown4 hfr4
    have HO4 := Lib.hid hown4
    have HF4 := Lib.hid ((Fr.drewN w nq (fun k => k = g)).trans hfr4 (fun k hk => .inl hk))
    have HX4 := Lib.hid (HX.out.fr HF4.out hvg)
    clear hown4 hfr4
    go_wp2_with fail
    refine thenQuiet_normal ?_
    refine wpQuiet_nil ?_
    intro _ hw'
    obtain ⟨nq2, hw''⟩ := hw'
    subst hw''
    refine noPanic_normal ?_
    have HO5 := Lib.hid (HO4.out.drewN nq2)
    have HX5 := Lib.hid (HX4.out.drewN nq2)
    have HF5 := Lib.hid (HF4.out.thenDrewN nq2)
    clear HO4 HX4 HF4
    go_wp2_with (with_reducible refine wpList_copy_own (j := i * 5) (cs := reC x) (sb := vb) (so := 0) (sl := 1) (sc := 1) rfl (.tmp 80) (.tmp 81) 41 41 rfl (by kernel_rfl) HSC.out HO5.out ?c1 _ _ _ ?c2 rfl rfl ?c3 ?c4 ?c5 ?c6 ?c7)
    case c1 => omega
    case c2 => rfl
    case c3 => rw [show Nat.min 1 (n + 1 - i) = 1 from Nat.min_eq_left (by omega), reC_len]
    case c4 => rw [reC_len]; omega
    case c5 => intro k u hk; rw [Nat.zero_add, HX5.out.cell]; exact hk
    case c6 => exact fun u hu => reC_one [x] u (by simpa using hu)
    case c7 =>
      intro w6 hown6 hfr6
      have HO6 := Lib.hid hown6
      have HF6 := Lib.hid (HF5.out.trans hfr6 (fun k hk => .inl hk))
      clear hown6 hfr6
      go_wp2_with fail
      go_ret
      have hgb : blk (.slice (some ⟨g, off, none⟩) n cap) = some g := by
        obtain ⟨c, rfl⟩ : ∃ c, cap = c + 1 := ⟨cap - 1, by omega⟩
        rfl
      have hgb1 : blk (.slice (some ⟨g, off, none⟩) (n + 1) cap) = some g := by
        obtain ⟨c, rfl⟩ : ∃ c, cap = c + 1 := ⟨cap - 1, by omega⟩
        rfl
      refine ⟨_, rfl, ?_, HF6.out.weak (fun k hk => .inl (by rw [hgb, hk])), .inl (by rw [hgb]; exact hgb1)⟩
      rw [HL.out, flat_ins_re]
      have e1 := ins_shift (l.flatMap reC) sp (reC x) (i * 5) 5 (n * 5) HXL.out (by omega) HSP.out (reC_len x)
      rw [← e1]
      have := HO6.out
      rw [show (i + 1) * 5 = i * 5 + 5 by omega] at this
      exact this

theorem insert_re (base : Nat) (v : Value) (l : List Re) (x : Re) (i vb : Nat) (w : World) (hl : l.length ≤ 1000) (hi : i ≤ l.length) (hown : Own w base 52 5 v l.length (l.flatMap reC)) (hbx : Bx w vb 52 (reC x)) (hbase : base ≤ w.heap.size) (hvg : ∀ g, blk v = some g → vb ≠ g) :
    Calls Try.prog 94 #[v, .int .i64 i, .slice (some ⟨vb, 0, none⟩) 1 1] w (InsE_re base v (l.take i ++ x :: l.drop i) w) := by
  by_cases h : i = l.length
  · subst h
    have := insert_end_re base v l x vb w hl hown hbx hbase
    rw [List.take_length, List.drop_length]
    exact this
  · obtain ⟨g, off, cap, rfl, hnc, _, _, _, hbk⟩ := hown.form (by omega)
    by_cases hc : l.length + 1 ≤ cap
    · exact insert_shift_re base g off cap l x i vb w hl (by omega) hc hown hbx (hvg g hbk)
    · obtain rfl : cap = l.length := by omega
      exact insert_grow_re base g off l x i vb w hl (by omega) hown hbx hbase

end Go.Proofs.Ytncgpojjibojlaa

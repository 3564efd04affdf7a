/- NodesRacks: the walk. -/
import Derived.Test.YthmifcbhbcjeiaaAwake12
namespace Go.Proofs.Ythmifcbhbcjeiaa
open Go Go.RowKit

set_option maxHeartbeats 2000000 in
set_option maxRecDepth 100000 in
theorem nodesRacks_walk (v : Value) (l : List Nq) (vi : Value) (ids : List Int) (more : Int) (W : World) (hR : Rd W 4 v l.length (l.flatMap noC)) (hI : Rd W 1 vi ids.length (ids.flatMap inC)) :
    Calls Try.prog 3 #[v, vi, .int .i64 more] W fun e w' => e = .returned (.bool true) ∧ Below W.heap.size W w' := by
  obtain ⟨ii, hii, hz0, hz1, hz2⟩ := info_parts infoInt
  obtain ⟨A, cap, hv, hcap, hnc⟩ := hR.shape
  subst hv
  obtain ⟨Ai, capi, hv, hcapi, hnci⟩ := hI.shape
  subst hv
  obtain ⟨n, hn⟩ : ∃ n, l.length = n := ⟨_, rfl⟩
  obtain ⟨m, hm⟩ : ∃ m, ids.length = m := ⟨_, rfl⟩
  have HR := Lib.hid hR
  have HI := Lib.hid hI
  have HN := Lib.hid hn
  have HM := Lib.hid hm
  rw [hn, hm]
  rw [hn] at hnc
  rw [hm] at hnci
  clear hR hI hn hm
  go_enter Try.func3, Try.ntmps3
  go_wp2_with fail
  refine (awake12 _).mono ?_
  rintro e w1 ⟨rfl, hb1⟩
  have HB1 := Lib.hid hb1
  clear hb1
  by_cases h1 : (50 : Int) < (n : Int)
  · go_wp2_with fail
    go_ret
    exact ⟨rfl, HB1.out⟩
  · by_cases h2 : (50 : Int) < (m : Int)
    · go_wp2_with fail
      go_ret
      exact ⟨rfl, HB1.out⟩
    · have hn50 : n ≤ 50 := by omega
      have hm50 : m ≤ 50 := by omega
      go_wp2_with fail
      have hR1 := HR.out.below HB1.out (Nat.le_refl _)
      have hI1 := HI.out.below HB1.out (Nat.le_refl _)
      refine (by have := racks_any _ _ l ids w1 (by rw [HN.out]; omega) (by rw [HM.out]; omega) hR1 hI1; rw [HN.out, HM.out] at this; exact this : Calls Try.prog 16 #[.slice A n cap, .slice Ai m capi] w1 fun e w' => e = .returned (.int .i64 (racksN l ids)) ∧ Below w1.heap.size w1 w').mono ?_
      rintro e w2 ⟨rfl, hb2⟩
      have HR2 := Lib.hid (hR1.below hb2 (Nat.le_refl _))
      have HI2 := Lib.hid (hI1.below hb2 (Nat.le_refl _))
      have HB2 := Lib.hid (below_then HB1.out hb2)
      have HI2m : Hid (Rd w2 1 (.slice Ai m capi) m (ids.flatMap inC)) := by have := HI2.out; rw [HM.out] at this; exact this
      have hs1 := HB2.out.size
      clear hb2 hR1 hI1
      go_wp2_with (first
        | (at_builtin; refine wpList_append_seg rfl (.const (.slice none 0 0)) (.tmp 25) 23 rfl w2.heap.size 3 ii _ 1 8 (by kernel_rfl) hii hz0 hz1 hz2 rfl (by omega) (.slice none 0 0) 0 [] rfl (Own.nil_ _ _ _ _) (.slice Ai m capi) m (ids.flatMap inC) rfl HI2m.out (inC_one ids) (by unfold maxLen; omega) (by omega) (Nat.le_refl _) ?_; intro v3 w3 hown3 hfr3 hb3 _; have HN3 := Lib.hid hown3; have HF3 := Lib.hid (hfr3.below (Nat.le_refl w2.heap.size) (fun k hk => by simp [blk] at hk)); have hs3 := hfr3.size; clear hown3 hfr3 hb3)
        | (at_builtin; refine wpList_append_seg rfl (.tmp 26) (.tmp 28) 23 rfl w2.heap.size 3 ii _ 1 8 (by kernel_rfl) hii hz0 hz1 hz2 rfl (by omega) v3 (0 + m) ([] ++ ids.flatMap inC) rfl (HN3.out.alloc _) (.slice (some ⟨w3.heap.size, 0, none⟩) 1 1) 1 (inC more) rfl (rd_one (t := 3) (heap_alloc_new _ _) rfl) (by simp [inC, Value.oneCell']) (by unfold maxLen; omega) (by omega) (by simp; try omega) ?_; intro v4 w4 hown4 hfr4 hb4 _; have HN4 := Lib.hid hown4; have HF4 := Lib.hid (hfr4.below (B := w2.heap.size) (by simp; omega) (fun k hk => (HN3.out.blk_lt hk).1)); have hs4 := hfr4.size; clear hown4 hfr4 hb4))
      have hB24 : Below w2.heap.size w2 w4 := (HF3.out.alloc hs3 _).trans HF4.out
      have hR4 := HR2.out.below hB24 (Nat.le_refl _)
      have hI4 : Rd w4 1 v4 (ids ++ [more]).length ((ids ++ [more]).flatMap inC) := by
        have := HN4.out.rd
        rw [List.length_append, HM.out, List.flatMap_append, flat_one]
        simpa using this
      refine (by have := racks_any _ v4 l (ids ++ [more]) w4 (by rw [HN.out]; omega) (by rw [List.length_append, HM.out]; simp; omega) hR4 hI4; rw [HN.out] at this; exact this : Calls Try.prog 16 #[.slice A n cap, v4] w4 fun e w' => e = .returned (.int .i64 (racksN l (ids ++ [more]))) ∧ Below w4.heap.size w4 w').mono ?_
      rintro e w5 ⟨rfl, hb5⟩
      have hB25 : Below w2.heap.size w2 w5 := below_then hB24 hb5
      have HR5 := Lib.hid (HR2.out.below hB25 (Nat.le_refl _))
      have HI5 := Lib.hid (HI2m.out.below hB25 (Nat.le_refl _))
      have HB25 := Lib.hid (below_then HB2.out hB25)
      have hs5 := HB25.out.size
      clear hb5 hB25 hR4 hI4 hB24 hs4
      go_wp2_with (first
        | (at_builtin; refine wpList_append_seg rfl (.const (.slice none 0 0)) (.tmp 34) 23 rfl w5.heap.size 3 ii _ 1 8 (by kernel_rfl) hii hz0 hz1 hz2 rfl (by omega) (.slice none 0 0) 0 [] rfl (Own.nil_ _ _ _ _) (.slice Ai m capi) m (ids.flatMap inC) rfl HI5.out (inC_one ids) (by unfold maxLen; omega) (by omega) (Nat.le_refl _) ?_; intro v6 w6 hown6 hfr6 hb6 _; have HN6 := Lib.hid hown6; have HF6 := Lib.hid (hfr6.below (Nat.le_refl w5.heap.size) (fun k hk => by simp [blk] at hk)); have hs6 := hfr6.size; have HI6 := Lib.hid (HI5.out.below HF6.out (Nat.le_refl _)); clear hown6 hfr6 hb6)
        | (at_builtin; refine wpList_append_seg rfl (.tmp 35) (.tmp 36) 23 rfl w5.heap.size 3 ii _ 1 8 (by kernel_rfl) hii hz0 hz1 hz2 rfl (by omega) v6 (0 + m) ([] ++ ids.flatMap inC) rfl HN6.out (.slice Ai m capi) m (ids.flatMap inC) rfl HI6.out (inC_one ids) (by unfold maxLen; omega) (by omega) hs6 ?_; intro v7 w7 hown7 hfr7 hb7 _; have HN7 := Lib.hid hown7; have HF7 := Lib.hid (hfr7.below hs6 (fun k hk => (HN6.out.blk_lt hk).1)); have hs7 := hfr7.size; clear hown7 hfr7 hb7))
      have hB57 : Below w5.heap.size w5 w7 := HF6.out.trans HF7.out
      have hR7 := HR5.out.below hB57 (Nat.le_refl _)
      have hI7 : Rd w7 1 v7 (ids ++ ids).length ((ids ++ ids).flatMap inC) := by
        have := HN7.out.rd
        rw [List.length_append, HM.out, List.flatMap_append]
        simpa using this
      refine (by have := racks_any _ v7 l (ids ++ ids) w7 (by rw [HN.out]; omega) (by rw [List.length_append, HM.out]; omega) hR7 hI7; rw [HN.out] at this; exact this : Calls Try.prog 16 #[.slice A n cap, v7] w7 fun e w' => e = .returned (.int .i64 (racksN l (ids ++ ids))) ∧ Below w7.heap.size w7 w').mono ?_
      rintro e w8 ⟨rfl, hb8⟩
      have HB8 := Lib.hid (below_then (below_then HB25.out hB57) hb8)
      have f1 := racksN_le8 l ids
      have f2 := racksN_le l ids
      have f3 := racksN_snoc l ids more
      have f4 := racksN_twice l ids
      rw [HM.out] at f2
      rw [f4]
      clear hb8 hB57 hR7 hI7 f4
      obtain ⟨f3, f5⟩ := f3
      generalize racksN l ids = r at *
      generalize racksN l (ids ++ [more]) = r' at *
      have g1 : (0 : Int) ≤ (r : Int) := by omega
      have g2 : (r : Int) ≤ (m : Int) := by omega
      have g3 : (r : Int) ≤ 8 := by omega
      have g4 : (r : Int) ≤ (r' : Int) := by omega
      have g5 : (r' : Int) ≤ (r : Int) + 1 := by omega
      go_wp2_with fail
      go_ret
      exact ⟨rfl, HB8.out⟩

end Go.Proofs.Ythmifcbhbcjeiaa

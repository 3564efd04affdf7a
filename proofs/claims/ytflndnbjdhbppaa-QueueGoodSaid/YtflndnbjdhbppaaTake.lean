/- The queue: Take. -/
import Derived.Test.YtflndnbjdhbppaaQueue
namespace Go.Proofs.Ytflndnbjdhbppaa
open Go Go.RowKit

theorem take_none (w : World) (base q : Nat) (v : Value) (h : HpAt w base q v []) :
    Calls Try.prog 16 #[.pointer (some ⟨q, 0, none⟩)] w fun e w' => e = .returned (.tuple #[.agg #[.int .i64 0, .int .i64 0, .int .i64 0], .bool false]) ∧ Below w.heap.size w w' := by
  have hq := h.c0
  have hql := h.lt
  obtain ⟨A, cap, hv⟩ := h.own.slice_
  rw [hv] at hq
  simp only [List.length_nil] at hq
  clear h hv
  go_enter Try.func16, Try.ntmps16
  go_wp2
  refine bodyPost_ret (v := .tuple #[.agg #[.int .i64 0, .int .i64 0, .int .i64 0], .bool false]) ?_ rfl ⟨rfl, ?_⟩
  · simp [results, Try.results16, go_sem]
  · exact (Below.refl _ _).alloc (Nat.le_refl _) _

set_option maxHeartbeats 2000000 in
theorem take_some (w : World) (base q : Nat) (v : Value) (d : List Nd) (h : QAt w base q v d) (hd : d.length ≤ 1000) (h0 : 0 < d.length) :
    Calls Try.prog 16 #[.pointer (some ⟨q, 0, none⟩)] w fun e w' => e = .returned (.tuple #[.agg #[.int .i64 (gt d 0).1, .int .i64 (gt d 0).2.1, .int .i64 (gt d 0).2.2], .bool true]) ∧
      ∃ v' d', QAt w' base q v' d' ∧ (gt d 0 :: d').Perm d ∧ Fr (fun k => k = q ∨ blk v = some k) w w' ∧ blk v' = blk v := by
  obtain ⟨n, hn⟩ : ∃ n, d.length = n + 1 := ⟨d.length - 1, by omega⟩
  obtain ⟨g, off, cap, hv, hnc, hcm, hbg, hgl, hbk⟩ := h.1.own.form h0
  subst hv
  have hcap0 : 0 < cap := by omega
  have hql := h.1.lt
  have hqg : q ≠ g := fun e => h.1.ne (by rw [e]; exact hbk)
  have hq := h.1.c0
  have hqz : w.frozen? ⟨q, 0, none⟩ = false := by simp [World.frozen?, h.1.at_]
  obtain ⟨ha0, ha1, ha2⟩ := own_el h.1.own 0 h0
  obtain ⟨hb0, hb1, hb2⟩ := own_el h.1.own n (by omega)
  obtain ⟨a0, x0⟩ : ∃ x, (gt d 0).1 = x := ⟨_, rfl⟩
  obtain ⟨a1, x1⟩ : ∃ x, (gt d 0).2.1 = x := ⟨_, rfl⟩
  obtain ⟨a2, x2⟩ : ∃ x, (gt d 0).2.2 = x := ⟨_, rfl⟩
  obtain ⟨c0, y0⟩ : ∃ x, (gt d n).1 = x := ⟨_, rfl⟩
  obtain ⟨c1, y1⟩ : ∃ x, (gt d n).2.1 = x := ⟨_, rfl⟩
  obtain ⟨c2, y2⟩ : ∃ x, (gt d n).2.2 = x := ⟨_, rfl⟩
  rw [x0] at ha0 ⊢
  rw [x1] at ha1 ⊢
  rw [x2] at ha2 ⊢
  rw [y0] at hb0
  rw [y1] at hb1
  rw [y2] at hb2
  rw [hn] at hq
  simp only [Nat.zero_mul, Nat.add_zero] at ha0 ha1 ha2
  have hnb : n ≤ 999 := by omega
  have hnc1 : n ≤ cap := by omega
  have HX := Lib.hid (And.intro x0 (And.intro x1 (And.intro x2 (And.intro y0 (And.intro y1 y2)))))
  have HH := Lib.hid h
  have HN := Lib.hid hn
  have HBK := Lib.hid hbk
  clear h hn hbk x0 x1 x2 y0 y1 y2 hnc hcm hbg hd h0
  go_enter Try.func16, Try.ntmps16
  go_wp2_with fail
  generalize hW : (World.alloc (World.alloc w _) _) = W
  have hbel : Below w.heap.size w W := by rw [← hW]; exact below_two _ _ _
  have hr0 : W.heap[w.heap.size]? = some (.cells #[.int .i64 0, .int .i64 0, .int .i64 0] 27 (0, 0)) := by
    rw [← hW, Below.heap_alloc _ _ _ (by simp)]; exact heap_alloc_new _ _
  have hr1 : W.heap[w.heap.size + 1]? = some (.cells #[.int .i64 a0, .int .i64 a1, .int .i64 a2] 27 (0, 0)) := by
    have := heap_alloc_new (w.alloc (.cells #[.int .i64 0, .int .i64 0, .int .i64 0] 27)) (.cells #[.int .i64 a0, .int .i64 a1, .int .i64 a2] 27)
    rw [← hW]
    simpa using this
  clear hW
  have hH1 := HH.out.1.below hbel
  have hF1 := Fr.of_below (S := fun k => k = q ∨ blk (.slice (some ⟨g, off, none⟩) d.length cap) = some k) hbel
  have hq' := hH1.c0
  rw [HN.out] at hq'
  obtain ⟨ha0', ha1', ha2'⟩ := own_el hH1.own 0 (by rw [HN.out]; omega)
  obtain ⟨hb0', hb1', hb2'⟩ := own_el hH1.own n (by rw [HN.out]; omega)
  obtain ⟨x0, x1, x2, y0, y1, y2⟩ := HX.out
  rw [y0] at hb0'
  rw [y1] at hb1'
  rw [y2] at hb2'
  clear x0 x1 x2 y0 y1 y2 ha0' ha1' ha2' ha0 ha1 ha2 hb0 hb1 hb2 hq hqz
  have HH1 := Lib.hid hH1
  have HF1 := Lib.hid hF1
  have HR0 := Lib.hid hr0
  have HR1 := Lib.hid hr1
  have HBL := Lib.hid hbel
  have hW2 : w.heap.size + 2 ≤ W.heap.size := (Array.getElem?_eq_some_iff.1 hr1).1
  obtain ⟨B, hB⟩ : ∃ B, w.heap.size = B := ⟨_, rfl⟩
  rw [hB] at hW2 ⊢
  have HBB := Lib.hid hB
  clear hH1 hF1 hr0 hr1 hbel hB
  refine wp_region_plan (C := fun w' => ∃ n, w' = World.drewN _ n) [] 13 (by kernel_rfl) (by kernel_rfl) ⟨1, rfl⟩ ?_
  simp only [List.foldl_nil, List.take_succ_cons, List.take_zero, List.drop_succ_cons, List.drop_zero, takeMoves]
  repeat (go_big_quiet_step (fail))
  refine wpQuiet_nil ?_
  intro _ hw'
  obtain ⟨nq, hw''⟩ := hw'
  subst hw''
  have HH2 := Lib.hid (HH1.out.own.drewN nq)
  have hlen : Hid (d.length = n + 1) := HN.out
  rw [HN.out] at HH2
  go_wp2_with (with_reducible refine wpList_store_own rfl 27 (.tmp 36) (.tmp 35) rfl HH2.out 0 #[.int .i64 c0, .int .i64 c1, .int .i64 c2] rfl rfl ?h1 hcap0 ?h2 ?h3 ?h4)
  case h1 => show 0 + 3 ≤ (n + 1) * 3; omega
  case h2 => kernel_rfl
  case h3 => exact ints3 _ _ _
  case h4 =>
    intro w2 own2 fr2
    have O2 := Lib.hid own2
    have FR2 := Lib.hid fr2
    have hat2 := (fr2.block q (by exact HH1.out.lt) hqg).trans HH1.out.at_
    rw [HN.out] at hat2
    have hq2 := cell_of_row w2 q 0 _ _ _ hat2
    have hz2 : w2.frozen? ⟨q, 0, none⟩ = false := by simp [World.frozen?, hat2]
    simp only [List.getElem?_toArray, List.getElem?_cons_zero] at hq2
    have HAT := Lib.hid hat2
    clear own2 fr2 hat2
    go_wp2_with fail
    refine noPanic_normal ?_
    go_wp2_with fail
    have hgg : ∀ k, blk (.slice (some ⟨g, off, none⟩) k cap) = some g := fun k => by
      obtain ⟨c, rfl⟩ : ∃ c, cap = c + 1 := ⟨cap - 1, by omega⟩
      rfl
    obtain ⟨x0, x1, x2, y0, y1, y2⟩ := HX.out
    have hd2 : ((d.set 0 (gt d n)).take n).length = n := by simp [HN.out]
    have hS : HpAt (w2.setCell ⟨q, 0, none⟩ (.slice (some ⟨g, off, none⟩) n cap)) base q (.slice (some ⟨g, off, none⟩) n cap) ((d.set 0 (gt d n)).take n) := by
      refine ⟨?_, HH1.out.base_, ?_⟩
      · simp [World.setCell, Array.getElem?_modify, HAT.out]
      · have o1 := O2.out.cutEnd (k := n) (by omega)
        have e1 : setL (d.flatMap ndC) 0 [.int .i64 c0, .int .i64 c1, .int .i64 c2] = (d.set 0 (gt d n)).flatMap ndC := by
          have := flat_setL ndC 3 ndC_len (by omega) d 0 (gt d n) (by rw [HN.out]; omega)
          simp only [Nat.zero_mul, ndC, y0, y1, y2] at this
          exact this
        rw [e1, flat_take ndC 3 ndC_len] at o1
        rw [hd2]
        exact o1.keep (fun k hk => Below.heap_setCell _ _ _ _ (fun e => hqg (by rw [hgg] at hk; injection hk with hk; rw [hk]; exact e.symm)))
    have hfrS : Fr (fun k => k = q ∨ blk (.slice (some ⟨g, off, none⟩) d.length cap) = some k) w (w2.setCell ⟨q, 0, none⟩ (.slice (some ⟨g, off, none⟩) n cap)) :=
      (((HF1.out.thenDrewN nq).trans FR2.out (fun i hi => .inl (.inr (by rw [hgg, hi])))).thenSet _ _ (.inl (.inl rfl)))
    have hboxes : ∀ w3 : World, Fr (fun k => blk (.slice (some ⟨g, off, none⟩) n cap) = some k) (w2.setCell ⟨q, 0, none⟩ (.slice (some ⟨g, off, none⟩) n cap)) w3 →
        w3.heap[B]? = some (.cells #[.int .i64 0, .int .i64 0, .int .i64 0] 27 (0, 0)) ∧ w3.heap[B + 1]? = some (.cells #[.int .i64 a0, .int .i64 a1, .int .i64 a2] 27 (0, 0)) := fun w3 f3 => by
      have hBB := HBB.out
      have hsz := FR2.out.size
      have hsz' : W.heap.size ≤ w2.heap.size := hsz
      have k1 : ∀ b, b < W.heap.size → w.heap.size ≤ b → w3.heap[b]? = W.heap[b]? := fun b hb hw => by
        rw [f3.block b (by show b < (w2.setCell _ _).heap.size; simp [World.setCell]; omega) (fun e => by rw [hgg] at e; injection e with e; omega), Below.heap_setCell _ _ _ _ (by show b ≠ q; omega), FR2.out.block b hb (by show ¬ b = g; omega)]
        rfl
      rw [← hBB]
      exact ⟨(k1 _ (by omega) (Nat.le_refl _)).trans HR0.out, (k1 _ (by omega) (by omega)).trans HR1.out⟩
    have hp0 : ∀ d' : List Nd, d'.Perm ((d.set 0 (gt d n)).take n) → (gt d 0 :: d').Perm d := fun d' hp => take_perm HN.out hp
    have key : Calls Try.prog 37 #[.pointer (some ⟨q, 0, none⟩)] (w2.setCell ⟨q, 0, none⟩ (.slice (some ⟨g, off, none⟩) n cap)) fun e w3 => e = .returned (.tuple #[]) ∧
        UpE (w2.setCell ⟨q, 0, none⟩ (.slice (some ⟨g, off, none⟩) n cap)) base q (.slice (some ⟨g, off, none⟩) n cap) ((d.set 0 (gt d n)).take n) w3 := by
      by_cases hn0 : n = 0
      · have hc := hS.c0
        rw [hn0] at hc
        refine (down_none _ q _ _ (by rw [hn0]; exact hc)).mono ?_
        rintro e w3 ⟨rfl, hb⟩
        exact ⟨rfl, _, List.Perm.refl _, fun k _ h => absurd h (by rw [hd2, hn0]; omega), hS.below hb, Fr.of_below hb⟩
      · exact down_any _ base q _ _ (by rw [hd2]; omega) (by rw [hd2]; omega) hS (dn_start HH.out.2 HN.out)
    refine key.mono ?_
    rintro e w3 ⟨rfl, d', hp, hho, hat, hfr⟩
    obtain ⟨hB0, hB1⟩ := hboxes w3 hfr
    have fin : Fr (fun k => k = q ∨ blk (.slice (some ⟨g, off, none⟩) d.length cap) = some k) w w3 := hfrS.trans hfr (fun i hi => .inl (.inr (by rw [hgg] at hi ⊢; exact hi)))
    have FIN := Lib.hid (And.intro fin (And.intro hat (And.intro hho (hp0 d' hp))))
    have HGG := Lib.hid hgg
    have z0 := cell_of_row w3 B 0 _ _ _ hB0
    have z1 := cell_of_row w3 B 1 _ _ _ hB0
    have z2 := cell_of_row w3 B 2 _ _ _ hB0
    have f0 : ∀ k, w3.frozen? ⟨B, k, none⟩ = false := fun k => by simp [World.frozen?, hB0]
    have g0 := f0 0
    have g1 := f0 1
    have g2 := f0 2
    have t0 := cell_of_row w3 (B + 1) 0 _ _ _ hB1
    have t1 := cell_of_row w3 (B + 1) 1 _ _ _ hB1
    have t2 := cell_of_row w3 (B + 1) 2 _ _ _ hB1
    simp only [List.getElem?_toArray, List.getElem?_cons_zero, List.getElem?_cons_succ] at z0 z1 z2 t0 t1 t2
    clear key hB0 hB1 f0 fin hp hho hat hfr hp0 hboxes hfrS hS hgg x0 x1 x2 y0 y1 y2 hd2 hq' hb0' hb1' hb2' hq2 hz2
    go_wp2_with fail
    have hs : ∀ o, (fun k => k = B) (⟨B, o, none⟩ : Addr).block ∨ w3.heap.size ≤ (⟨B, o, none⟩ : Addr).block := fun _ => .inl rfl
    have F4 := ((((Fr.refl (fun k => k = B) w3).thenSet _ (.int .i64 a0) (hs 0)).thenSet _ (.int .i64 a1) (hs 1)).thenSet _ (.int .i64 a2) (hs 2))
    refine bodyPost_ret (v := .tuple #[.agg #[.int .i64 a0, .int .i64 a1, .int .i64 a2], .bool true]) ?_ rfl ?_
    · simp [results, Try.results16, go_sem, z0, z1, z2]
    · have hBB := HBB.out
      obtain ⟨f1, f2, f3, f4⟩ := FIN.out
      refine ⟨rfl, .slice (some ⟨g, off, none⟩) n cap, d', ⟨f2.fr F4 (by show ¬ q = B; omega) (fun k hk => by rw [HGG.out] at hk; injection hk with hk; show ¬ k = B; omega), f3⟩, f4, f1.trans F4 (fun i hi => .inr (by rw [hi]; omega)), by rw [HGG.out, HGG.out]⟩

end Go.Proofs.Ytflndnbjdhbppaa

/- QueueDrains: the walk. -/
import Derived.Test.YtflndnbjdhbppaaQueueOrder
namespace Go.Proofs.Ytflndnbjdhbppaa
open Go Go.RowKit

def sumC : List Nd → Int
  | [] => 0
  | x :: l => x.1 + sumC l
theorem sumC_perm {a b : List Nd} (h : a.Perm b) : sumC a = sumC b := by
  induction h with
  | nil => rfl
  | cons x _ ih => simp only [sumC, ih]
  | swap x y l => simp only [sumC]; omega
  | trans _ _ ih1 ih2 => exact ih1.trans ih2
theorem sumC_cons (x : Nd) (l : List Nd) : sumC (x :: l) = x.1 + sumC l := rfl
theorem sumC_append (l : List Nd) (x : Nd) : sumC (l ++ [x]) = sumC l + x.1 := by
  induction l with
  | nil => simp [sumC]
  | cons y l ih => simp only [List.cons_append, sumC, ih]; omega
theorem sumC_snoc (l : List Nd) (k : Nat) (h : k < l.length) : sumC (l.take (k + 1)) = sumC (l.take k) + (gt l k).1 := by
  rw [List.take_succ_eq_append_getElem h, sumC_append]
  simp [gt, h]
theorem sumC_bd (l : List Nd) (h : ∀ x ∈ l, 0 ≤ x.1 ∧ x.1 ≤ 1000000) : 0 ≤ sumC l ∧ sumC l ≤ 1000000 * l.length := by
  induction l with
  | nil => simp [sumC]
  | cons x l ih =>
    have h1 := h x (by simp)
    have h2 := ih (fun y hy => h y (by simp [hy]))
    rw [sumC_cons, List.length_cons]
    constructor <;> omega
theorem take_snoc_perm {l d d' : List Nd} {k : Nat} (h : k < l.length) (hp : d.Perm (l.take k)) (hp' : d'.Perm (gt l k :: d)) : d'.Perm (l.take (k + 1)) := by
  rw [List.take_succ_eq_append_getElem h]
  have e : gt l k = l[k] := by simp [gt, h]
  rw [← e]
  exact hp'.trans ((List.Perm.cons _ hp).trans (List.perm_append_comm (l₁ := [gt l k])))

/-- A block that is known whole. -/
def Blk3 (w : World) (g : Nat) (t : TypeId) (cs : Array Value) : Prop := w.heap[g]? = some (.cells cs t (0, 0))
theorem Blk3.set_ {w : World} {g : Nat} {t : TypeId} {cs : Array Value} (h : Blk3 w g t cs) (i : Nat) (u : Value) : Blk3 (w.setCell ⟨g, i, none⟩ u) g t (cs.setIfInBounds i u) := by
  unfold Blk3 at h ⊢
  simp [World.setCell, Array.getElem?_modify, h]

/-- The cells of an argument's element. -/
theorem rd_el {w : World} {b off cap : Nat} {l : List Nd} (h : Rd w 3 (.slice (some ⟨b, off, none⟩) l.length cap) l.length (l.flatMap ndC)) (i : Nat) (hi : i < l.length) :
    w.cell? ⟨b, off + i * 3, none⟩ = some (.int .i64 (gt l i).1) ∧ w.cell? ⟨b, off + i * 3 + 1, none⟩ = some (.int .i64 (gt l i).2.1) ∧ w.cell? ⟨b, off + i * 3 + 1 + 1, none⟩ = some (.int .i64 (gt l i).2.2) := by
  obtain ⟨b', off', cap', hv, _, _, _, hc⟩ := h.form (by omega)
  injection hv with h1 _ _
  injection h1 with h1
  injection h1 with h1 h2
  subst h1 h2
  have hg := gt_get hi
  have f0 := flat_get ndC 3 ndC_len l i 0 (by omega)
  have f1 := flat_get ndC 3 ndC_len l i 1 (by omega)
  have f2 := flat_get ndC 3 ndC_len l i 2 (by omega)
  rw [hg] at f0 f1 f2
  exact ⟨hc _ _ f0, hc _ _ f1, hc _ _ f2⟩

set_option maxHeartbeats 8000000 in
set_option maxRecDepth 100000 in
theorem queueDrains_walk (v : Value) (l : List Nd) (W : World) (hR : Rd W 3 v l.length (l.flatMap ndC)) :
    Calls Try.prog 5 #[v] W fun e w' => e = .returned (.bool true) ∧ Below W.heap.size W w' := by
  obtain ⟨_, A, cap, rfl, hnc, hcm, _⟩ := id hR
  obtain ⟨n, hn⟩ : ∃ n, l.length = n := ⟨_, rfl⟩
  have HR := Lib.hid hR
  have HN := Lib.hid hn
  have hnm : n ≤ 9223372036854775807 := by unfold maxLen at hcm; omega
  rw [hn]
  clear hR hn hnc hcm
  go_enter Try.func5, Try.ntmps5
  go_wp2_with fail
  refine (awake17 _).mono ?_
  rintro e w1 ⟨rfl, hb1⟩
  go_wp2_with fail
  refine (new_any w1).mono ?_
  rintro e w2 ⟨rfl, hq2, hb2⟩
  obtain ⟨B, hB⟩ : ∃ B, w1.heap.size = B := ⟨_, rfl⟩
  have HB2 := Lib.hid (below_then hb1 hb2)
  have hWB : W.heap.size ≤ B := by have := hb1.size; omega
  rw [hB] at hq2 ⊢
  have HQ2 := Lib.hid hq2
  clear hb1 hb2 hq2 hB
  by_cases hlen : n ≤ 200
  · have hlen' : ¬ (200 : Int) < (n : Int) := by omega
    go_wp2_with fail
    go_loopw [5, 6] (fun s5 s6 wr => ∃ (k : Nat) (vq : Value) (d : List Nd), s6 = .int .i64 k ∧ s5 = .int .i64 (sumC (l.take k)) ∧ k ≤ n ∧ (∀ x ∈ l.take k, 0 ≤ x.1 ∧ x.1 ≤ 1000000) ∧ QAt wr B B vq d ∧ d.Perm (l.take k) ∧ Below W.heap.size W wr) (fun _ s6 _ => n - (intOf s6).toNat)
    case atStart => exact ⟨0, _, [], rfl, rfl, by omega, by simp, HQ2.out, by simp, HB2.out⟩
    case round =>
      obtain ⟨k, vq, d, rfl, rfl, hk, hbd, hq, hp, hbel⟩ := hrel
      obtain ⟨s, hs⟩ : ∃ s, sumC (l.take k) = s := ⟨_, rfl⟩
      have hsb := sumC_bd _ hbd
      rw [hs] at hsb ⊢
      have hkl : (l.take k).length ≤ 200 := by have := List.length_take_le k l; omega
      have hs0 : 0 ≤ s := hsb.1
      have hs1 : s ≤ 200000000 := by omega
      have HS := Lib.hid hs
      have HBD := Lib.hid hbd
      have HQ := Lib.hid hq
      have HP := Lib.hid hp
      have HBL := Lib.hid hbel
      clear hs hsb hbd hq hp hbel hkl
      by_cases hlt : k < n
      · have hltI : (k : Int) < (n : Int) := by omega
        have hR1 := HR.out.below HBL.out (Nat.le_refl _)
        obtain ⟨b, off, cap', hv, hnc, hcm, hbl, _⟩ := hR1.form (by rw [HN.out]; omega)
        injection hv with hv1 hv2 hv3
        subst hv1 hv3
        obtain ⟨c0, c1, c2⟩ := rd_el hR1 k (by rw [HN.out]; exact hlt)
        obtain ⟨x, hx⟩ : ∃ x, gt l k = x := ⟨_, rfl⟩
        rw [hx] at c0 c1 c2
        obtain ⟨x0, x1, x2⟩ := x
        simp only at c0 c1 c2
        have HX := Lib.hid hx
        clear hx hR1 hv2 hnc hcm hbl
        by_cases hneg : x0 < 0
        · go_wp2_with fail
          go_ret
          exact ⟨rfl, HBL.out⟩
        · by_cases hbig : 1000000 < x0
          · go_wp2_with fail
            go_ret
            exact ⟨rfl, HBL.out⟩
          · go_wp2_with fail
            refine (put_any wr B B vq d (x0, x1, x2) HQ.out (by have := HP.out.length_eq; have := List.length_take_le k l; omega)).mono ?_
            rintro e w3 ⟨rfl, v', d', hq', hp', hf', hk'⟩
            have hbw : Below W.heap.size wr w3 := hf'.below HBL.out.size (fun i hi => by
              rcases hi with hi | hi
              · omega
              · have := (HQ.out.1.own.blk_lt hi).1; omega)
            have HBL3 := Lib.hid (HBL.out.trans hbw)
            have HQ3 := Lib.hid hq'
            have HP3 := Lib.hid hp'
            have hR3 := HR.out.below HBL3.out (Nat.le_refl _)
            have d0 := (rd_el hR3 k (by rw [HN.out]; exact hlt)).1
            rw [HX.out] at d0
            simp only at d0
            clear hq' hp' hf' hk' hbw hR3 c0 c1 c2
            go_wp2_with fail
            go_roundw
            case rel => exact ⟨k + 1, v', d', by go_num, by rw [sumC_snoc l k (by rw [HN.out]; exact hlt), HS.out, HX.out], by omega, fun y hy => by
              rw [List.take_succ_eq_append_getElem (by rw [HN.out]; exact hlt)] at hy
              rcases List.mem_append.1 hy with hy | hy
              · exact HBD.out y hy
              · have e : gt l k = l[k]'(by rw [HN.out]; exact hlt) := by simp [gt, HN.out, hlt]
                rw [List.mem_singleton] at hy
                rw [hy, ← e, HX.out]
                exact ⟨by omega, by omega⟩, HQ3.out, take_snoc_perm (by rw [HN.out]; exact hlt) HP.out (by rw [HX.out]; exact HP3.out), HBL3.out⟩
            case measure => simp [intOf]; omega
      · obtain rfl : k = n := by omega
        go_wp2_with fail
        have hb7 := heap_alloc_new wr (.cells #[.int .i64 0, .int .i64 0, .int .i64 0] 27)
        have hal : Below wr.heap.size wr (wr.alloc (.cells #[.int .i64 0, .int .i64 0, .int .i64 0] 27)) := (Below.refl _ _).alloc (Nat.le_refl _) _
        have hQ4 : QAt (wr.alloc (.cells #[.int .i64 0, .int .i64 0, .int .i64 0] 27)) B B vq d := ⟨HQ.out.1.below hal, HQ.out.2⟩
        have hBL4 := below_then HBL.out (by exact hal)
        have hnb : blk vq ≠ some wr.heap.size := fun e => by have := (HQ.out.1.own.blk_lt e).2; omega
        have hB7 : B < wr.heap.size := HQ.out.1.lt
        generalize wr.alloc (.cells #[.int .i64 0, .int .i64 0, .int .i64 0] 27) = w4 at *
        obtain ⟨C, hC⟩ : ∃ C, wr.heap.size = C := ⟨_, rfl⟩
        rw [hC] at hb7 hnb hB7 ⊢
        have hWC : W.heap.size ≤ C := by have := HBL.out.size; omega
        have HPL : Hid (d.Perm l) := by
          have := HP.out
          rw [List.take_of_length_le (by rw [HN.out]; exact Nat.le_refl _)] at this
          exact this
        have HSd : Hid (s = sumC d) := by
          rw [← HS.out, sumC_perm HP.out]
          exact rfl
        have hbdd : ∀ x ∈ d, 0 ≤ x.1 ∧ x.1 ≤ 1000000 := fun x hx => HBD.out x (HP.out.subset hx)
        have HBDD := Lib.hid hbdd
        have HB7 := Lib.hid hb7
        have HNB := Lib.hid hnb
        have HQ4 := Lib.hid hQ4
        have HBL4 := Lib.hid hBL4
        clear hb7 hal hQ4 hBL4 hnb hC hbdd HP HS HBD HQ HBL
        rw [HSd.out]
        go_loopw [5, 8] (fun s5 s8 wr => ∃ (i : Nat) (vq : Value) (d : List Nd) (y : Nd), s8 = .int .i64 i ∧ s5 = .int .i64 (sumC d) ∧ d.length + i = k ∧ (∀ x ∈ d, 0 ≤ x.1 ∧ x.1 ≤ 1000000) ∧ QAt wr B B vq d ∧ blk vq ≠ some C ∧
          wr.heap[C]? = some (.cells #[.int .i64 y.1, .int .i64 y.2.1, .int .i64 y.2.2] 27 (0, 0)) ∧ (0 < i → ∀ x ∈ d, ¬ nlt x y) ∧ Below W.heap.size W wr) (fun _ s8 _ => k - (intOf s8).toNat)
        case atStart => exact ⟨0, _, d, (0, 0, 0), rfl, rfl, by rw [HPL.out.length_eq, HN.out]; rfl, HBDD.out, HQ4.out, HNB.out, HB7.out, fun h => absurd h (by omega), HBL4.out⟩
        case round =>
          obtain ⟨i, vq, d, y, rfl, rfl, hdl, hbd, hq, hnb, hC, hle, hbel⟩ := hrel
          obtain ⟨y0, y1, y2⟩ := y
          have hsb := sumC_bd _ hbd
          have HBD := Lib.hid hbd
          have HQ := Lib.hid hq
          have HNB := Lib.hid hnb
          have HC := Lib.hid hC
          have HLE := Lib.hid hle
          have HBL := Lib.hid hbel
          have HDL := Lib.hid hdl
          have hik : i ≤ k := by omega
          by_cases hlt : i < k
          · have hltI : (i : Int) < (k : Int) := by omega
            obtain ⟨t, ht⟩ : ∃ t, sumC d = t := ⟨_, rfl⟩
            rw [ht] at hsb ⊢
            have ht0 : 0 ≤ t := hsb.1
            have ht1 : t ≤ 200000000 := by omega
            have HT := Lib.hid ht
            have hd0 : 0 < d.length := by omega
            have hd1 : d.length ≤ 1000 := by omega
            clear hbd hq hnb hC hle hbel hdl ht hsb
            go_wp2_with fail
            refine (take_some _ B B vq d HQ.out hd1 hd0).mono ?_
            rintro e w5 ⟨rfl, v', d', hq', hp', hf', hk'⟩
            obtain ⟨x, hx⟩ : ∃ x, gt d 0 = x := ⟨_, rfl⟩
            have hmin : ∀ z ∈ d', ¬ nlt z x := fun z hz => by rw [← hx]; exact HO_mem HQ.out.2 (hp'.subset (by simp [hz]))
            have hbx := HBD.out x (by rw [← hx]; exact gt0_mem hd0)
            have hmy : 0 < i → ¬ nlt x (y0, y1, y2) := fun h => HLE.out h x (by rw [← hx]; exact gt0_mem hd0)
            have hsd : t = x.1 + sumC d' := by rw [← HT.out, ← sumC_perm hp', hx]; rfl
            have hdl' : d'.length + 1 = d.length := by have := hp'.length_eq; simpa using this
            have hbd' : ∀ z ∈ d', 0 ≤ z.1 ∧ z.1 ≤ 1000000 := fun z hz => HBD.out z (hp'.subset (by simp [hz]))
            have hbw : Below W.heap.size wr w5 := hf'.below HBL.out.size (fun i hi => by
              rcases hi with hi | hi
              · omega
              · have := (HQ.out.1.own.blk_lt hi).1; omega)
            have hC5 : w5.heap[C]? = some (.cells #[.int .i64 y0, .int .i64 y1, .int .i64 y2] 27 (0, 0)) := (hf'.block C (Array.getElem?_eq_some_iff.1 HC.out).1 (fun h => by
              rcases h with h | h
              · omega
              · exact HNB.out h)).trans HC.out
            rw [hx]
            obtain ⟨x0, x1, x2⟩ := x
            simp only at hbx hsd ⊢
            have hC5l := (Array.getElem?_eq_some_iff.1 hC5).1
            -- the box of the one that was taken
            have hal : Below w5.heap.size w5 (w5.alloc (.cells #[.int .i64 x0, .int .i64 x1, .int .i64 x2] 27)) := (Below.refl _ _).alloc (Nat.le_refl _) _
            have HH := Lib.hid (And.intro hmin (And.intro hmy (And.intro hsd (And.intro hdl' (And.intro hbd' (And.intro (HBL.out.trans hbw) (And.intro hC5 (And.intro hq' hk'))))))))
            have hx0 : 0 ≤ x0 := hbx.1
            have hx1 : x0 ≤ 1000000 := hbx.2
            have HAL := Lib.hid hal
            obtain ⟨c0, c1, c2⟩ := box_cells hC5
            have z0 : w5.frozen? ⟨C, 0, none⟩ = false := by simp [World.frozen?, hC5]
            have z1 : w5.frozen? ⟨C, 1, none⟩ = false := by simp [World.frozen?, hC5]
            have z2 : w5.frozen? ⟨C, 2, none⟩ = false := by simp [World.frozen?, hC5]
            clear hmin hmy hsd hdl' hbd' hbw hC5 hq' hk' hp' hf' hbx hx hal
            -- what the round comes to, from the world behind the test on
            have fin : ∀ w6 : World, Below w5.heap.size w5 w6 → ∃ (i' : Nat) (vq : Value) (d : List Nd) (y : Nd), Value.int .i64 ((i : Int) + 1) = .int .i64 i' ∧ Value.int .i64 (t - x0) = .int .i64 (sumC d) ∧ d.length + i' = k ∧ (∀ x ∈ d, 0 ≤ x.1 ∧ x.1 ≤ 1000000) ∧
                QAt (((w6.setCell ⟨C, 0, none⟩ (.int .i64 x0)).setCell ⟨C, 1, none⟩ (.int .i64 x1)).setCell ⟨C, 2, none⟩ (.int .i64 x2)) B B vq d ∧ blk vq ≠ some C ∧
                (((w6.setCell ⟨C, 0, none⟩ (.int .i64 x0)).setCell ⟨C, 1, none⟩ (.int .i64 x1)).setCell ⟨C, 2, none⟩ (.int .i64 x2)).heap[C]? = some (.cells #[.int .i64 y.1, .int .i64 y.2.1, .int .i64 y.2.2] 27 (0, 0)) ∧ (0 < i' → ∀ x ∈ d, ¬ nlt x y) ∧
                Below W.heap.size W (((w6.setCell ⟨C, 0, none⟩ (.int .i64 x0)).setCell ⟨C, 1, none⟩ (.int .i64 x1)).setCell ⟨C, 2, none⟩ (.int .i64 x2)) := by
              intro w6 h6
              obtain ⟨hmin, hmy, hsd, hdl', hbd', hbw, hC5, hq', hk'⟩ := HH.out
              have hs : ∀ o, (fun k => k = C) (⟨C, o, none⟩ : Addr).block ∨ w6.heap.size ≤ (⟨C, o, none⟩ : Addr).block := fun _ => .inl rfl
              have F4 := ((((Fr.refl (fun k => k = C) w6).thenSet _ (.int .i64 x0) (hs 0)).thenSet _ (.int .i64 x1) (hs 1)).thenSet _ (.int .i64 x2) (hs 2))
              have hbk : blk v' ≠ some C := fun e => HNB.out (hk'.symm.trans e)
              refine ⟨i + 1, v', d', (x0, x1, x2), by go_num, by rw [hsd]; congr 1; omega, by have := HDL.out; omega, hbd', ⟨(hq'.1.below h6).fr F4 (by show ¬ B = C; omega) (fun g hg e => hbk (by rw [hg]; exact congrArg some e)), hq'.2⟩, hbk, ?_, fun _ => hmin, ?_⟩
              · have hC6 := (h6.block C (Array.getElem?_eq_some_iff.1 hC5).1).trans hC5
                have b1 := (show Blk3 w6 C 27 _ from hC6)
                exact ((b1.set_ 0 _).set_ 1 _).set_ 2 _
              · exact ((((hbw.trans (h6.mono hbw.size)).setCell (p := ⟨C, 0, none⟩) hWC _).setCell (p := ⟨C, 1, none⟩) hWC _).setCell (p := ⟨C, 2, none⟩) hWC _)
            have FIN := Lib.hid fin
            clear fin
            by_cases hi0 : 0 < i
            · have hi0' : (0 : Int) < (i : Int) := by omega
              go_wp2_with fail
              refine (urgent_any _ _ _ _ _ _ _).mono ?_
              rintro e w6 ⟨rfl, hb6⟩
              have hu : urg x0 x1 x2 y0 y1 y2 = false := (urgN_false (x0, x1, x2) (y0, y1, y2)).2 (HH.out.2.1 hi0)
              rw [hu]
              have h56 := below_then HAL.out hb6
              have d0 := (hb6.cell (p := ⟨w5.heap.size, 0, none⟩) (by simp)).trans (box_cells (heap_alloc_new w5 _)).1
              have d1 := (hb6.cell (p := ⟨w5.heap.size, 1, none⟩) (by simp)).trans (box_cells (heap_alloc_new w5 _)).2.1
              have d2 := (hb6.cell (p := ⟨w5.heap.size, 2, none⟩) (by simp)).trans (box_cells (heap_alloc_new w5 _)).2.2
              have c0' := (h56.cell (p := ⟨C, 0, none⟩) hC5l).trans c0
              have c1' := (h56.cell (p := ⟨C, 1, none⟩) hC5l).trans c1
              have c2' := (h56.cell (p := ⟨C, 2, none⟩) hC5l).trans c2
              have z0' := (h56.frozen (p := ⟨C, 0, none⟩) hC5l).trans z0
              have z1' := (h56.frozen (p := ⟨C, 1, none⟩) hC5l).trans z1
              have z2' := (h56.frozen (p := ⟨C, 2, none⟩) hC5l).trans z2
              obtain ⟨D, hD⟩ : ∃ D, w5.heap.size = D := ⟨_, rfl⟩
              have hCD : C ≠ D := by omega
              have H56 := Lib.hid h56
              rw [hD] at d0 d1 d2 ⊢
              clear h56 hb6 hu c0 c1 c2 z0 z1 z2 hD
              go_wp2_with fail
              go_roundw
              case rel => exact FIN.out w6 H56.out
              case measure => simp [intOf]; omega
            · have hi0' : ¬ (0 : Int) < (i : Int) := by omega
              go_wp2_with fail
              go_roundw
              case rel =>
                obtain ⟨i', vq', d', y', f1, f2, f3, f4, f5, f6, f7, f8, f9⟩ := FIN.out w5 (Below.refl _ _)
                exact ⟨i', vq', d', y', f1, f2, f3, f4, ⟨f5.1.below ((Below.refl _ _).alloc (Nat.le_refl _) _), f5.2⟩, f6, (Below.heap_alloc _ _ _ (Array.getElem?_eq_some_iff.1 f7).1).trans f7, f8, f9.alloc f9.size _⟩
              case measure => simp [intOf]; omega
          · obtain rfl : i = k := by omega
            have hd0 : d = [] := List.eq_nil_of_length_eq_zero (by omega)
            subst hd0
            clear hbd hq hnb hC hle hbel hdl
            rw [show sumC [] = 0 from rfl]
            go_wp2_with fail
            refine (take_none wr B B vq HQ.out.1).mono ?_
            rintro e w5 ⟨rfl, hb5⟩
            have hal : Below w5.heap.size w5 (w5.alloc (.cells #[.int .i64 0, .int .i64 0, .int .i64 0] 27)) := (Below.refl _ _).alloc (Nat.le_refl _) _
            have hQ5 := (HQ.out.1.below hb5).below hal
            have HB5 := Lib.hid (below_then (below_then HBL.out (hb5)) hal)
            have HQ5 := Lib.hid hQ5
            clear hQ5 hb5 hal hsb
            go_wp2_with (go_at_call 18; refine (len_any _ B B _ [] HQ5.out (by simp)).mono ?_; rintro e w' ⟨rfl, rfl⟩)
            go_ret
            exact ⟨rfl, HB5.out⟩
  · have hlen' : (200 : Int) < (n : Int) := by omega
    go_wp2_with fail
    go_ret
    exact ⟨rfl, HB2.out⟩

end Go.Proofs.Ytflndnbjdhbppaa

/- crc.Nibbles: its contract. -/
import Derived.Test.YtncgpojjibojlaaGcq
import Derived.Test.YtncgpojjibojlaaGjq
namespace Go.Proofs.Ytncgpojjibojlaa
open Go Go.RowKit

def tabV (k : Nat) : List Value := (List.range 16).map (fun j => .int .u32 (((if j < k then stpN 4 j else 0 : Nat) : Int)))
theorem tabV_len (k : Nat) : (tabV k).length = 16 := by simp [tabV]
theorem tabV_get (k i : Nat) (hi : i < 16) : (tabV k)[i]? = some (.int .u32 (((if i < k then stpN 4 i else 0 : Nat) : Int))) := by
  unfold tabV
  rw [List.getElem?_map, List.getElem?_range hi]
  rfl
theorem tabV_set (k : Nat) (hk : k < 16) : (tabV k).set k (.int .u32 ((stpN 4 k : Nat) : Int)) = tabV (k + 1) := by
  apply List.ext_getElem?
  intro i
  by_cases hi : i < 16
  · rw [List.getElem?_set, tabV_len, tabV_get _ _ hi, tabV_get _ _ hi]
    by_cases e : k = i
    · subst e
      simp [hk]
    · rw [if_neg e]
      by_cases h : i < k
      · rw [if_pos h, if_pos (by omega)]
      · rw [if_neg h, if_neg (by omega)]
  · rw [List.getElem?_eq_none (by rw [List.length_set, tabV_len]; omega), List.getElem?_eq_none (by rw [tabV_len]; omega)]
theorem Bx.setJ {w : World} {B : Nat} {t : TypeId} {cs : List Value} (h : Bx w B t cs) (j : Nat) (u : Value) : Bx (w.setCell ⟨B, j, none⟩ u) B t (cs.set j u) := by
  have h' : w.heap[B]? = some (.cells cs.toArray t (0, 0)) := h
  show (w.setCell ⟨B, j, none⟩ u).heap[B]? = _
  simp [World.setCell, Array.getElem?_modify, h']

theorem stp_bits {y : Nat} (hy : y < 4294967296) :
    bits .xor .u32 ((y : Int) / 2) (bits .and .u32 (-bits .and .u32 (y : Int) 1 % 4294967296) 3988292384) = ((stp y : Nat) : Int) := by
  have h1 : bits .and .u32 (y : Int) 1 = ((y % 2 : Nat) : Int) := by
    have := u32_and_nat y 1 hy (by omega)
    rw [nat_mask1] at this
    exact this
  rw [h1]
  have hd : (y : Int) / 2 = ((y / 2 : Nat) : Int) := by omega
  rw [hd]
  unfold stp polyC
  by_cases ho : y % 2 = 1
  · rw [if_pos ho, ho]
    rw [show bits .and .u32 (-((1 : Nat) : Int) % 4294967296) 3988292384 = ((3988292384 : Nat) : Int) by decide]
    exact u32_xor_nat (y / 2) 3988292384 (by omega) (by omega)
  · rw [if_neg ho, show y % 2 = 0 by omega]
    rw [show bits .and .u32 (-((0 : Nat) : Int) % 4294967296) 3988292384 = ((0 : Nat) : Int) by decide]
    rw [u32_xor_nat (y / 2) 0 (by omega) (by omega)]
    simp
def tabW (j : Nat) : Value := .int .u32 ((stpN 4 j : Nat) : Int)
theorem tabV_full (i : Nat) (hi : i < 16) : (tabV 16)[i]? = some (tabW i) := by
  rw [tabV_get _ _ hi, if_pos hi]
  rfl

set_option maxHeartbeats 4000000 in
set_option maxRecDepth 100000 in
theorem nib_any (w : World) :
    Calls Try.prog 91 #[] w fun e w' => e = .returned (.agg (tabV 16).toArray) ∧ Below w.heap.size w w' := by
  go_enter Try.func91, Try.ntmps91
  go_wp2_with fail
  have hal := below2 w (.cells (tabV 0).toArray 110) (.cells (tabV 0).toArray 110)
  have hb0 : Bx ((w.alloc (.cells (tabV 0).toArray 110)).alloc (.cells (tabV 0).toArray 110)) w.heap.size 110 (tabV 0) := (Bx.new w 110 (tabV 0)).alloc _
  have hb1 : Bx ((w.alloc (.cells (tabV 0).toArray 110)).alloc (.cells (tabV 0).toArray 110)) (w.heap.size + 1) 110 (tabV 0) := by
    have := Bx.new (w.alloc (.cells (tabV 0).toArray 110)) 110 (tabV 0)
    rw [World.size_alloc] at this
    exact this
  rw [show (tabV 0).toArray = #[.int .u32 0, .int .u32 0, .int .u32 0, .int .u32 0, .int .u32 0, .int .u32 0, .int .u32 0, .int .u32 0, .int .u32 0, .int .u32 0, .int .u32 0, .int .u32 0, .int .u32 0, .int .u32 0, .int .u32 0, .int .u32 0] from rfl] at hal hb0 hb1
  generalize ((w.alloc (.cells #[.int .u32 0, .int .u32 0, .int .u32 0, .int .u32 0, .int .u32 0, .int .u32 0, .int .u32 0, .int .u32 0, .int .u32 0, .int .u32 0, .int .u32 0, .int .u32 0, .int .u32 0, .int .u32 0, .int .u32 0, .int .u32 0] 110)).alloc (.cells #[.int .u32 0, .int .u32 0, .int .u32 0, .int .u32 0, .int .u32 0, .int .u32 0, .int .u32 0, .int .u32 0, .int .u32 0, .int .u32 0, .int .u32 0, .int .u32 0, .int .u32 0, .int .u32 0, .int .u32 0, .int .u32 0] 110)) = w0 at *
  have HAL := Lib.hid hal
  have HB0 := Lib.hid hb0
  have HB1 := Lib.hid hb1
  have hl1 := hb1.lt
  clear hal hb0 hb1
  go_loopw [4] (fun s4 wr => ∃ k : Nat, k ≤ 16 ∧ s4 = .int .i64 k ∧ Bx wr (w.heap.size + 1) 110 (tabV k) ∧ Bx wr w.heap.size 110 (tabV 0) ∧ Below w.heap.size w wr) (fun s4 _ => 16 - (intOf s4).toNat)
  case atStart => exact ⟨0, by omega, rfl, HB1.out, HB0.out, HAL.out⟩
  case round =>
    obtain ⟨k, hk, rfl, hb, hz, hbel⟩ := hrel
    have HB := Lib.hid hb
    have HZ := Lib.hid hz
    have HBL := Lib.hid hbel
    clear hb hz hbel
    by_cases hlt : k < 16
    · have hltI : (k : Int) < 16 := by omega
      have hcv : (k : Int) % 4294967296 = k := by omega
      go_wp2_with fail
      go_loopw [3, 9] (fun s3 s9 wr2 => ∃ j : Nat, j ≤ 4 ∧ s9 = .int .i64 j ∧ s3 = .int .u32 ((stpN j k : Nat) : Int) ∧ wr2 = wr) (fun _ s9 _ => 4 - (intOf s9).toNat)
      case atStart => exact ⟨0, by omega, rfl, rfl, rfl⟩
      case round =>
        obtain ⟨j, hj, rfl, rfl, rfl⟩ := hrel
        have hxl := stpN_lt j (x := k) (by unfold wordC; omega)
        have hs := stpN_snoc j k
        obtain ⟨y, hy⟩ : ∃ y, stpN j k = y := ⟨_, rfl⟩
        rw [hy] at hxl hs ⊢
        have HS := Lib.hid hs
        have HY := Lib.hid hy
        clear hs hy
        unfold wordC at hxl
        by_cases hj4 : j < 4
        · have hjI : (j : Int) < 4 := by omega
          have hst := stp_bits hxl
          have HST := Lib.hid hst
          clear hst
          go_wp2_with fail
          go_roundw
          case rel => exact ⟨j + 1, by omega, by go_num, by rw [HS.out, HST.out], by first | rfl | trivial⟩
          case measure => simp [intOf]; omega
        · obtain rfl : j = 4 := by omega
          have hal : w.heap.size + 1 < wr.heap.size := HB.out.lt
          have c0 := HB.out.cell k
          rw [tabV_get _ _ hlt, if_neg (by omega)] at c0
          have z0 := HB.out.frozen k
          go_wp2_with fail
          go_roundw
          case rel =>
            refine ⟨k + 1, by omega, by go_num, ?_, ?_, ?_⟩
            · have := HB.out.setJ k (.int .u32 (y : Int))
              rw [← HY.out, tabV_set k hlt] at this
              rw [← HY.out]
              exact this
            · exact (Below.heap_setCell _ _ _ _ (fun e => by have e' : w.heap.size = w.heap.size + 1 := e; omega)).trans HZ.out
            · exact HBL.out.setCell (p := ⟨w.heap.size + 1, k, none⟩) (by show w.heap.size ≤ w.heap.size + 1; omega) _
          case measure => simp [intOf]; omega
    · obtain rfl : k = 16 := by omega
      have hal : w.heap.size + 1 < wr.heap.size := HB.out.lt
      have c := fun (j : Nat) (hj : j < 16) => (HB.out.cell j).trans (tabV_full j hj)
      have c0 := c 0 (by omega)
      have c1 := c 1 (by omega)
      have c2 := c 2 (by omega)
      have c3 := c 3 (by omega)
      have c4 := c 4 (by omega)
      have c5 := c 5 (by omega)
      have c6 := c 6 (by omega)
      have c7 := c 7 (by omega)
      have c8 := c 8 (by omega)
      have c9 := c 9 (by omega)
      have c10 := c 10 (by omega)
      have c11 := c 11 (by omega)
      have c12 := c 12 (by omega)
      have c13 := c 13 (by omega)
      have c14 := c 14 (by omega)
      have c15 := c 15 (by omega)
      clear c
      go_wp2_with (with_reducible refine wpList_store_box rfl 110 _ _ rfl w.heap.size 110 _ [tabW 0, tabW 1, tabW 2, tabW 3, tabW 4, tabW 5, tabW 6, tabW 7, tabW 8, tabW 9, tabW 10, tabW 11, tabW 12, tabW 13, tabW 14, tabW 15] rfl HZ.out rfl rfl ?hk ?hl ?hm)
      case hk => kernel_rfl
      case hl => simp [tabW, Value.oneCell']
      case hm =>
        intro w3 hbx3 hfr3
        have q0 := hbx3.cell 0
        have q1 := hbx3.cell 1
        have q2 := hbx3.cell 2
        have q3 := hbx3.cell 3
        have q4 := hbx3.cell 4
        have q5 := hbx3.cell 5
        have q6 := hbx3.cell 6
        have q7 := hbx3.cell 7
        have q8 := hbx3.cell 8
        have q9 := hbx3.cell 9
        have q10 := hbx3.cell 10
        have q11 := hbx3.cell 11
        have q12 := hbx3.cell 12
        have q13 := hbx3.cell 13
        have q14 := hbx3.cell 14
        have q15 := hbx3.cell 15
        simp only [List.getElem?_cons_zero, List.getElem?_cons_succ] at q0 q1 q2 q3 q4 q5 q6 q7 q8 q9 q10 q11 q12 q13 q14 q15
        go_wp2_with fail
        refine bodyPost_ret (v := .agg #[tabW 0, tabW 1, tabW 2, tabW 3, tabW 4, tabW 5, tabW 6, tabW 7, tabW 8, tabW 9, tabW 10, tabW 11, tabW 12, tabW 13, tabW 14, tabW 15]) ?_ rfl ⟨rfl, ?_⟩
        · simp [results, Try.results91, go_sem, q0, q1, q2, q3, q4, q5, q6, q7, q8, q9, q10, q11, q12, q13, q14, q15]
        · exact HBL.out.trans (hfr3.below (B := w.heap.size) (by have := HBL.out.size; omega) (fun k hk => by have e' : k = w.heap.size := hk; omega))

end Go.Proofs.Ytncgpojjibojlaa

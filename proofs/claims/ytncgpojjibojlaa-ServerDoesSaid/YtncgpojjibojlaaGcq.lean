/- slices.Clone at uint8: its contract. -/
import Derived.Test.YtncgpojjibojlaaGbq
import Derived.Test.YtncgpojjibojlaaGiq
import Derived.Test.YtncgpojjibojlaaGaq
import Derived.Lib.SliceRun
import Derived.Laws.BitsAllLaws
namespace Go.Proofs.Ytncgpojjibojlaa
open Go Go.RowKit

theorem info_by : (Try.prog.info? 5).map (fun i => (i.zero, i.size, i.bytes)) = some (some (.int .u8 0), 1, 1) := by kernel_rfl

/-- A slice of the call's own, laid anew. -/
def FreshE_by (n : Nat) (xs : List Value) (w : World) (en : Ending) (w' : World) : Prop := ∃ v', en = .returned v' ∧ Own w' w.heap.size 5 1 v' n xs ∧ Below w.heap.size w w'

theorem clone_by (v : Value) (l : List Nat) (w : World) (hl : l.length ≤ 1000) (hR : Rd w 1 v l.length (l.flatMap byC)) :
    Calls Try.prog 62 #[v] w (FreshE_by l.length (l.flatMap byC) w) := by
  obtain ⟨ii, hii, hz0, hz1, hz2⟩ := info_parts info_by
  obtain ⟨A, cap, hv, hcap, hnc⟩ := hR.shape
  subst hv
  have HR := Lib.hid hR
  clear hR
  have hq := fun w a n c => Lib.run_eql_slice_nil (P := Try.prog) w 34 5 a n c 0 0 Try.underlying34
  cases A with
  | none =>
    have h0 : l.length = 0 := by
      rcases Nat.eq_zero_or_pos l.length with h | h
      · exact h
      · obtain ⟨b, off, hA, _⟩ := HR.out.addr h
        cases hA
    have hl0 : l = [] := List.eq_nil_of_length_eq_zero h0
    subst hl0
    go_enter Try.func62, Try.ntmps62
    go_wp2
    go_ret
    exact ⟨_, rfl, Own.nil_ _ _ _ _, Below.refl _ _⟩
  | some a =>
    go_enter Try.func62, Try.ntmps62
    go_wp2_with (at_builtin; refine wpList_append_seg rfl _ _ 34 rfl w.heap.size 5 ii _ 1 1 (by kernel_rfl) hii hz0 hz1 hz2 rfl (by omega) (.slice (some ⟨w.heap.size, 0, none⟩) 0 0) 0 [] rfl ⟨by simp, .inl ⟨_, rfl, rfl⟩⟩ (.slice (some a) l.length cap) l.length (l.flatMap byC) rfl (HR.out.alloc _) (byC_one l) (by unfold maxLen; omega) (by omega) (by simp) ?_; intro v1 w1 hown1 hfr1 hb1 _)
    go_ret
    refine ⟨_, rfl, ?_, ?_⟩
    · simpa using hown1
    · exact ((Below.refl _ _).alloc (Nat.le_refl _) _ : Below w.heap.size w (w.alloc _)).trans (hfr1.below (by simp) (fun i hi => by simp [blk] at hi))

end Go.Proofs.Ytncgpojjibojlaa

/- sutureref01.Step, More, Sum: their contracts. -/
namespace Go.Proofs.Ytncgpojjibojlaa
open Go Go.RowKit

theorem stpN_snoc (n x : Nat) : stpN (n + 1) x = stp (stpN n x) := by rw [stpN_add]; rfl

set_option maxHeartbeats 1000000 in
theorem rstep_any (x m : Nat) (w : World) (hx : x < 4294967296) (hm : m ≤ 1000) :
    Calls Try.prog 106 #[.int .u32 x, .int .i64 m] w fun e w' => e = .returned (.int .u32 ((stpN m x : Nat) : Int)) ∧ w = w' := by
  go_enter Try.func106, Try.ntmps106
  go_wp2_with fail
  go_loopw [0, 5] (fun s0 s5 wr => ∃ k : Nat, k ≤ m ∧ s5 = .int .i64 k ∧ s0 = .int .u32 ((stpN k x : Nat) : Int) ∧ wr = w) (fun _ s5 _ => m - (intOf s5).toNat)
  case atStart => exact ⟨0, Nat.zero_le _, rfl, rfl, rfl⟩
  case round =>
    obtain ⟨k, hk, rfl, rfl, rfl⟩ := hrel
    have hlt := stpN_lt k (x := x) hx
    have hs := stpN_snoc k x
    obtain ⟨y, hy⟩ : ∃ y, stpN k x = y := ⟨_, rfl⟩
    rw [hy] at hlt hs ⊢
    have HS := Lib.hid hs
    have HY := Lib.hid hy
    clear hs hy
    unfold wordC at hlt
    by_cases hkm : k < m
    · have hltI : (k : Int) < (m : Int) := by omega
      by_cases ho : y % 2 = 1
      · have hst : bits .xor .u32 ((y : Int) / 2) 3988292384 = ((stpN (k + 1) x : Nat) : Int) := by
          rw [HS.out]
          have := u32_xor_nat (y / 2) 3988292384 (by omega) (by omega)
          unfold stp polyC
          rw [if_pos ho, ← this]
          simp
        have HST := Lib.hid hst
        clear hst
        go_wp2_with fail
        go_roundw
        case rel => exact ⟨k + 1, by omega, by go_num, by rw [HST.out], by first | rfl | trivial⟩
        case measure => simp [intOf]; omega
      · have hst : (y : Int) / 2 = ((stpN (k + 1) x : Nat) : Int) := by
          rw [HS.out]
          unfold stp
          rw [if_neg ho]
          simp
        have HST := Lib.hid hst
        clear hst
        go_wp2_with fail
        go_roundw
        case rel => exact ⟨k + 1, by omega, by go_num, by rw [HST.out], by first | rfl | trivial⟩
        case measure => simp [intOf]; omega
    · obtain rfl : k = m := by omega
      go_wp2_with fail
      go_ret
      exact ⟨by rw [HY.out]; first | rfl | trivial, rfl⟩

end Go.Proofs.Ytncgpojjibojlaa

/- sutureref01.More, Sum: their contracts. -/
namespace Go.Proofs.Ytncgpojjibojlaa
open Go Go.RowKit

theorem moreC_snoc (x : Nat) (l : List Nat) (b : Nat) : moreC x (l ++ [b]) = bytC (moreC x l) b := by simp [moreC]

set_option maxHeartbeats 1000000 in
theorem rmore_any (v : Value) (l : List Nat) (w : World) (hok : okB l) (hR : Rd w 1 v l.length (l.flatMap byC)) :
    Calls Try.prog 101 #[.int .u32 0, v] w fun e w' => e = .returned (.int .u32 ((sumC l : Nat) : Int)) ∧ w = w' := by
  obtain ⟨A, cap, hv, hcap, hnc⟩ := hR.shape
  subst hv
  obtain ⟨n, hn⟩ : ∃ n, l.length = n := ⟨_, rfl⟩
  have HR := Lib.hid hR
  have HN := Lib.hid hn
  have HK := Lib.hid hok
  rw [hn] at hnc ⊢
  clear hR hn hok
  have hnm : n ≤ 9223372036854775807 := by omega
  go_enter Try.func101, Try.ntmps101
  go_wp2_with fail
  go_loopw [5, 6] (fun s5 s6 wr => ∃ k : Nat, k ≤ n ∧ s6 = .int .i64 k ∧ s5 = .int .u32 ((moreC 4294967295 (l.take k) : Nat) : Int) ∧ wr = w) (fun _ s6 _ => n - (intOf s6).toNat)
  case atStart => exact ⟨0, Nat.zero_le _, rfl, by first | rfl | trivial, rfl⟩
  case round =>
    obtain ⟨k, hk, rfl, rfl, rfl⟩ := hrel
    have hlt := moreC_lt (l.take k) (x := 4294967295) (by unfold wordC; omega) (fun b hb => HK.out b (List.mem_of_mem_take hb))
    by_cases hkn : k < n
    · have hltI : (k : Int) < (n : Int) := by omega
      have hR1 := HR.out
      rw [HN.out] at hR1
      obtain ⟨b, off, hA, hbl⟩ := hR1.addr (by omega)
      subst hA
      have c0 := rd_byte hR1 k (by rw [HN.out]; exact hkn)
      have hs := moreC_snoc 4294967295 (l.take k) (at_ l k)
      rw [← take_at (by rw [HN.out]; exact hkn)] at hs
      have hb := HK.out (at_ l k) (at_mem (by rw [HN.out]; exact hkn))
      obtain ⟨y, hy⟩ : ∃ y, moreC 4294967295 (l.take k) = y := ⟨_, rfl⟩
      obtain ⟨z, hz⟩ : ∃ z, at_ l k = z := ⟨_, rfl⟩
      rw [hy] at hlt hs ⊢
      rw [hz] at c0 hs hb
      have hxo := u32_xor_nat y z (by unfold wordC at hlt; omega) (by omega)
      have hxl : y ^^^ z < 4294967296 := Nat.xor_lt_two_pow (n := 32) (by unfold wordC at hlt; omega) (by omega)
      have hb8 : (z : Int) % 4294967296 = z := by omega
      have HS := Lib.hid hs
      clear hs hy hz hR1
      go_wp2_with (go_at_call 106; refine (rstep_any (y ^^^ z) 8 _ hxl (by omega)).mono ?_; rintro e w2 ⟨rfl, rfl⟩)
      go_roundw
      case rel => exact ⟨k + 1, by omega, by go_num, by rw [HS.out]; rfl, by first | rfl | trivial⟩
      case measure => simp [intOf]; omega
    · obtain rfl : k = n := by omega
      have ht : l.take k = l := by rw [← HN.out, List.take_length]
      rw [ht] at hlt ⊢
      obtain ⟨y, hy⟩ : ∃ y, moreC 4294967295 l = y := ⟨_, rfl⟩
      rw [hy] at hlt ⊢
      have hxo : bits .xor .u32 IntKind.u32.max (y : Int) = ((y ^^^ 4294967295 : Nat) : Int) := by rw [Nat.xor_comm]; exact u32_xor_nat 4294967295 y (by omega) (by unfold wordC at hlt; omega)
      have HXO := Lib.hid hxo
      have hsum : sumC l = y ^^^ 4294967295 := by unfold sumC; rw [hy]
      have HS := Lib.hid hsum
      clear hsum hy ht hxo
      go_wp2_with fail
      go_ret
      exact ⟨by rw [HS.out, ← HXO.out]; first | rfl | trivial, rfl⟩

theorem rsum_any (v : Value) (l : List Nat) (w : World) (hok : okB l) (hR : Rd w 1 v l.length (l.flatMap byC)) :
    Calls Try.prog 88 #[v] w fun e w' => e = .returned (.int .u32 ((sumC l : Nat) : Int)) ∧ w = w' := by
  have HR := Lib.hid hR
  clear hR
  go_enter Try.func88, Try.ntmps88
  go_wp2_with fail
  refine (rmore_any v l w hok HR.out).mono ?_
  rintro e w1 ⟨rfl, rfl⟩
  go_wp2_with fail
  go_ret
  exact ⟨rfl, rfl⟩

end Go.Proofs.Ytncgpojjibojlaa

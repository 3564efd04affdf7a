/- crc.More, crc.Sum: their contracts. -/
import Derived.Test.YtncgpojjibojlaaGcq
import Derived.Test.YtncgpojjibojlaaCrc3q
import Derived.ScopeJumps
import Derived.Outline
namespace Go.Proofs.Ytncgpojjibojlaa
open Go Go.RowKit

def frMore (s1 s5 s6 s7 : Value) (u : Nat → Value) : Act := ⟨#[u 0, s1, u 2, u 3, u 4, s5, s6, s7, u 8, u 9, u 10, u 11, u 12, u 13, u 14, u 15, u 16, u 17, u 18, u 19, u 20, u 21, u 22, u 23, u 24, u 25, u 26, u 27, u 28, u 29, u 30, u 31, u 32, u 33, u 34, u 35, u 36, u 37, u 38, u 39], []⟩
/-- What stands at the label: so many bytes have been taken. -/
def MoreJ (w : World) (B n : Nat) (A : Option Addr) (cap : Nat) (l : List Nat) (a : Act) (w' : World) : Prop :=
  ∃ k : Nat, (a.tmps.size = 40 ∧ a.defers = [] ∧ a.tmps.getD 1 undef = .slice A n cap ∧ a.tmps.getD 5 undef = .pointer (some ⟨B, 0, none⟩) ∧ a.tmps.getD 6 undef = .int .u32 ((moreC 4294967295 (l.take k) : Nat) : Int) ∧ a.tmps.getD 7 undef = .int .i64 k) ∧
    k ≤ n ∧ Bx w' B 110 (tabV 16) ∧ Below w.heap.size w w'
def MoreK (w : World) (B n : Nat) (A : Option Addr) (cap : Nat) (l : List Nat) (m : Nat) (a : Act) (w' : World) : Prop := MoreJ w B n A cap l a w' ∧ n - (intOf (a.tmps.getD 7 undef)).toNat < m
noncomputable def moreRest : Code := match (findLabel (match (Try.f67).body with | some (.seq _ (.scope c)) => c | _ => .skip) 0).getD .skip with
  | .seq _ c => c
  | c => c

theorem half_bits {x : Nat} (hx : x < 4294967296) : bits .xor .u32 ((stpN 4 (x % 16) : Nat) : Int) ((x : Int) / 16) = ((stpN 4 x : Nat) : Int) := by
  have hd : (x : Int) / 16 = ((x / 16 : Nat) : Int) := by omega
  rw [hd, u32_xor_nat _ _ (stpN_lt 4 (x := x % 16) (by unfold wordC; omega)) (by omega), ← stp_half]
theorem mask_bits {x : Nat} (hx : x < 4294967296) : bits .and .u32 (x : Int) 15 = ((x % 16 : Nat) : Int) := by
  have := u32_and_nat x 15 hx (by omega)
  rw [nat_mask4] at this
  exact this

set_option maxHeartbeats 4000000 in
set_option maxRecDepth 100000 in
theorem more_pass (w : World) (B n : Nat) (A : Option Addr) (cap : Nat) (l : List Nat) (hok : okB l) (hn : l.length = n) (hR : Rd w 1 (.slice A n cap) n (l.flatMap byC)) (Q : Exit → Act → World → Prop)
    (hQ : ∀ a' w', a'.defers = [] → a'.tmps.getD 4 undef = .int .u32 ((sumC l : Nat) : Int) → Below w.heap.size w w' → Q .ret a' w') (a : Act) (w' : World) (hJ : MoreJ w B n A cap l a w')
    (hG : ∀ a' w', MoreK w B n A cap l (n - (intOf (a.tmps.getD 7 undef)).toNat) a' w' → Q (.goto 0) a' w') :
    moreRest.wp Try.prog Q a w' := by
  obtain ⟨k, ⟨hsz, hdf, hs1, hs5, hs6, hs7⟩, hk, hb, hbel⟩ := hJ
  have hm : (intOf (a.tmps.getD 7 undef)).toNat = k := by rw [hs7]; simp [intOf]
  rw [hm] at hG
  clear hm
  have hfr : a = frMore (a.tmps.getD 1 undef) (a.tmps.getD 5 undef) (a.tmps.getD 6 undef) (a.tmps.getD 7 undef) (fun k => a.tmps.getD k undef) := (act_of_size hsz hdf).trans rfl
  rw [hs1, hs5, hs6, hs7] at hfr
  generalize (fun k => a.tmps.getD k undef) = u at hfr
  clear hsz hdf hs1 hs5 hs6 hs7
  subst hfr
  have hlt := moreC_lt (l.take k) (x := 4294967295) (by unfold wordC; omega) (fun b hb => hok b (List.mem_of_mem_take hb))
  unfold wordC at hlt
  obtain ⟨A', cap', hv, hcap, hnc⟩ := hR.shape
  injection hv with e1 e2 e3
  subst e1 e3
  have hn63 : n ≤ 9223372036854775807 := by omega
  unfold frMore moreRest
  conv => arg 2; whnf
  have HBX := Lib.hid hb
  have HBL := Lib.hid hbel
  have HOK := Lib.hid hok
  have HN := Lib.hid hn
  have HR := Lib.hid hR
  have HQ := Lib.hid hQ
  have HG := Lib.hid hG
  clear hb hbel hok hn hR hQ hG
  by_cases hkn : k < n
  · have hltI : (k : Int) < (n : Int) := by omega
    have hR1 := HR.out.below HBL.out (Nat.le_refl _)
    obtain ⟨b, off, hA, hbl⟩ := hR1.addr (by omega)
    subst hA
    have hR2 := hR1
    rw [← HN.out] at hR2
    have c0 := rd_byte hR2 k (by rw [HN.out]; exact hkn)
    have hs := moreC_snoc 4294967295 (l.take k) (at_ l k)
    rw [← take_at (by rw [HN.out]; exact hkn)] at hs
    have hbb := HOK.out (at_ l k) (at_mem (by rw [HN.out]; exact hkn))
    obtain ⟨y, hy⟩ : ∃ y, moreC 4294967295 (l.take k) = y := ⟨_, rfl⟩
    obtain ⟨z, hz⟩ : ∃ z, at_ l k = z := ⟨_, rfl⟩
    rw [hy] at hlt hs ⊢
    rw [hz] at c0 hs hbb
    have hxo := u32_xor_nat y z hlt (by omega)
    have hxl : y ^^^ z < 4294967296 := Nat.xor_lt_two_pow (n := 32) (by omega) (by omega)
    have hb8 : (z : Int) % 4294967296 = z := by omega
    have hbyt : bytC y z = stpN 4 (stpN 4 (y ^^^ z)) := stpN_add 4 4 (y ^^^ z)
    rw [hbyt] at hs
    obtain ⟨x, hx⟩ : ∃ x, y ^^^ z = x := ⟨_, rfl⟩
    rw [hx] at hxo hxl hs
    have hx2l := stpN_lt 4 (x := x) hxl
    have hh1 := half_bits hxl
    have hm1 := mask_bits hxl
    obtain ⟨x2, hx2⟩ : ∃ x2, stpN 4 x = x2 := ⟨_, rfl⟩
    rw [hx2] at hx2l hh1 hs
    unfold wordC at hx2l
    have hh2 := half_bits hx2l
    have hm2 := mask_bits hx2l
    have c1 := (HBX.out.cell (x % 16)).trans (tabV_full (x % 16) (by omega))
    have c2 := (HBX.out.cell (x2 % 16)).trans (tabV_full (x2 % 16) (by omega))
    unfold tabW at c1 c2
    have i1 : x % 16 < 16 := by omega
    have i2 : x2 % 16 < 16 := by omega
    obtain ⟨a1, ha1⟩ : ∃ a, x % 16 = a := ⟨_, rfl⟩
    obtain ⟨a2, ha2⟩ : ∃ a, x2 % 16 = a := ⟨_, rfl⟩
    rw [ha1] at hh1 hm1 c1 i1
    rw [ha2] at hh2 hm2 c2 i2
    have j1 : (a1 : Int) < 16 := by omega
    have j2 : (a2 : Int) < 16 := by omega
    obtain ⟨t1, ht1⟩ : ∃ t, stpN 4 a1 = t := ⟨_, rfl⟩
    obtain ⟨t2, ht2⟩ : ∃ t, stpN 4 a2 = t := ⟨_, rfl⟩
    rw [ht1] at hh1 c1
    rw [ht2] at hh2 c2
    have HS := Lib.hid hs
    clear hs hy hz hR1 hR2 hx hx2 ha1 ha2 ht1 ht2 hbyt
    go_wp2_with fail
    go_step3
    simp only [Exit.then]
    refine HG.out _ _ ?_
    refine ⟨⟨k + 1, ⟨rfl, rfl, rfl, rfl, ?_, ?_⟩, by omega, HBX.out, HBL.out⟩, ?_⟩
    · show Value.int .u32 _ = _
      rw [HS.out]
    · show Value.int .i64 _ = _
      go_num
    · show n - (intOf (Value.int .i64 _)).toNat < _
      simp [intOf]
      omega
  · obtain rfl : k = n := by omega
    have ht : l.take k = l := by rw [← HN.out, List.take_length]
    rw [ht] at hlt ⊢
    obtain ⟨y, hy⟩ : ∃ y, moreC 4294967295 l = y := ⟨_, rfl⟩
    rw [hy] at hlt ⊢
    have hxo : bits .xor .u32 IntKind.u32.max (y : Int) = ((y ^^^ 4294967295 : Nat) : Int) := by rw [Nat.xor_comm]; exact u32_xor_nat 4294967295 y (by omega) hlt
    have HXO := Lib.hid hxo
    have hsum : sumC l = y ^^^ 4294967295 := by unfold sumC; rw [hy]
    have HS := Lib.hid hsum
    clear hsum hy ht hxo
    go_wp2_with fail
    refine HQ.out _ _ ?_ ?_ HBL.out
    · rfl
    show Value.int .u32 _ = _
    rw [HS.out, ← HXO.out]

theorem more_ret (l : List Nat) (w : World) (a' : Act) (w'' : World) (hdf : a'.defers = []) (h4 : a'.tmps.getD 4 undef = .int .u32 ((sumC l : Nat) : Int)) (hE : Below w.heap.size w w'') :
    bodyPost Try.prog Try.f67 (fun e w' => e = .returned (.int .u32 ((sumC l : Nat) : Int)) ∧ Below w.heap.size w w') .ret a' w'' := by
  have h5 : a'.tmps[4]?.getD undef = .int .u32 ((sumC l : Nat) : Int) := by
    rw [← h4]
    simp
  refine bodyPost_ret (v := .int .u32 ((sumC l : Nat) : Int)) ?_ hdf ⟨rfl, hE⟩
  simp [results, Try.results67, go_sem, h5]

set_option maxHeartbeats 4000000 in
set_option maxRecDepth 100000 in
theorem more_any (v : Value) (l : List Nat) (w : World) (hok : okB l) (hR : Rd w 1 v l.length (l.flatMap byC)) :
    Calls Try.prog 67 #[.int .u32 0, v] w fun e w' => e = .returned (.int .u32 ((sumC l : Nat) : Int)) ∧ Below w.heap.size w w' := by
  obtain ⟨A, cap, hv, hcap, hnc⟩ := hR.shape
  subst hv
  obtain ⟨n, hn⟩ : ∃ n, l.length = n := ⟨_, rfl⟩
  rw [hn] at hR hnc ⊢
  have HR := Lib.hid hR
  have HN := Lib.hid hn
  have HOK := Lib.hid hok
  clear hR hn hok
  go_enter Try.func67, Try.ntmps67
  go_wp2_with fail
  refine wp_scope_jumps 0 (fun a w' => ∃ B, MoreJ w B n A cap l a w') (fun a _ => n - (intOf (a.tmps.getD 7 undef)).toNat) (rest := Code.skip.seq moreRest) (by kernel_rfl) ?_ ?_
  · go_wp2_with fail
    refine (nib_any w).mono ?_
    rintro e w1 ⟨rfl, hb1⟩
    have hz : Bx (w1.alloc (.cells #[.int .u32 0, .int .u32 0, .int .u32 0, .int .u32 0, .int .u32 0, .int .u32 0, .int .u32 0, .int .u32 0, .int .u32 0, .int .u32 0, .int .u32 0, .int .u32 0, .int .u32 0, .int .u32 0, .int .u32 0, .int .u32 0] 110)) w1.heap.size 110 (tabV 0) := Bx.new w1 110 (tabV 0)
    have HZ := Lib.hid hz
    have hal := below_one w1 (.cells #[.int .u32 0, .int .u32 0, .int .u32 0, .int .u32 0, .int .u32 0, .int .u32 0, .int .u32 0, .int .u32 0, .int .u32 0, .int .u32 0, .int .u32 0, .int .u32 0, .int .u32 0, .int .u32 0, .int .u32 0, .int .u32 0] 110)
    have HAL := Lib.hid (below_then hb1 hal)
    have HS1 := Lib.hid hb1.size
    clear hz hal hb1
    go_wp2_with (with_reducible refine wpList_store_box rfl 110 _ _ rfl w1.heap.size 110 _ (tabV 16) rfl HZ.out rfl (by rw [tabV_len, tabV_len]) ?hk ?hl ?hm)
    case hk => rw [tabV_len]; kernel_rfl
    case hl => simp [tabV, Value.oneCell']
    case hm =>
      intro w3 hbx3 hfr3
      have HX3 := Lib.hid hbx3
      have HB3 : Hid (Below w.heap.size w w3) := HAL.out.trans (hfr3.below (B := w.heap.size) (by have := HS1.out; simp; omega) (fun k hk => by have e' : k = w1.heap.size := hk; have := HS1.out; omega))
      clear hbx3 hfr3
      go_wp2_with fail
      go_step3
      simp only [Exit.then]
      rename_i K hK
      refine hK _ _ (more_pass w w1.heap.size n A cap l HOK.out HN.out HR.out _ ?_ _ _ ?_ ?_)
      · intro a' w'' hdf h4 hE
        exact more_ret l w a' w'' hdf h4 hE
      · exact ⟨0, ⟨rfl, rfl, rfl, rfl, rfl, rfl⟩, Nat.zero_le _, HX3.out, HB3.out⟩
      · intro a' w'' h
        exact ⟨rfl, _, h.1⟩
  · rintro a w' ⟨B, hJ⟩
    refine wp_seq (wp_skip ?_)
    refine more_pass w B n A cap l HOK.out HN.out HR.out _ ?_ a w' hJ ?_
    · intro a' w'' hdf h4 hE
      exact more_ret l w a' w'' hdf h4 hE
    · intro a' w'' h
      exact ⟨rfl, ⟨B, h.1⟩, h.2⟩

theorem sum_any (v : Value) (l : List Nat) (w : World) (hok : okB l) (hR : Rd w 1 v l.length (l.flatMap byC)) :
    Calls Try.prog 27 #[v] w fun e w' => e = .returned (.int .u32 ((sumC l : Nat) : Int)) ∧ Below w.heap.size w w' := by
  have HR := Lib.hid hR
  clear hR
  go_enter Try.func27, Try.ntmps27
  go_wp2_with fail
  refine (more_any v l w hok HR.out).mono ?_
  rintro e w1 ⟨rfl, hb1⟩
  have HB1 := Lib.hid hb1
  clear hb1
  go_wp2_with fail
  go_ret
  exact ⟨rfl, HB1.out⟩

end Go.Proofs.Ytncgpojjibojlaa

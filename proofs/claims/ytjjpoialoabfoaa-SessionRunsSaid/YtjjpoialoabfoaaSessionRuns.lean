/- SessionRuns: the walk. -/
import Derived.Test.YtjjpoialoabfoaaAwake09
import Derived.Test.YtjjpoialoabfoaaRef09P
import Derived.Test.YtjjpoialoabfoaaSessL
namespace Go.Proofs.Ytjjpoialoabfoaa
open Go Go.RowKit

theorem one_ses {c n a : Int} {l : List Se} (h : n = 0 ∧ l = [] ∨ 0 < n ∧ l = [(c, n, a)]) : (sesS l c).2.1 = n ∧ ∀ x : Se, x.1 = c → putS l x = [x] := by
  rcases h with ⟨rfl, rfl⟩ | ⟨h0, rfl⟩
  · exact ⟨rfl, fun x _ => rfl⟩
  · refine ⟨by simp [sesS, key_se], fun x hx => ?_⟩
    subst hx
    simp [putS]
def RunsC (W : World) (c : Int) (n : Nat) (s6 s7 s8 : Value) (wr : World) : Prop :=
  ∃ (k q : Nat) (a : Int) (l : List Se) (A : Option Addr) (cap : Nat), k ≤ n ∧ q ≤ k ∧ s8 = .int .i64 k ∧ s7 = .int .i64 q ∧ s6 = .slice A l.length cap ∧ ((q : Int) = 0 ∧ l = [] ∨ 0 < (q : Int) ∧ l = [(c, (q : Int), a)]) ∧ Rd wr 3 (.slice A l.length cap) l.length (l.flatMap seC) ∧ Below W.heap.size W wr

set_option maxHeartbeats 4000000 in
set_option maxRecDepth 100000 in
theorem sessionRuns_walk (c : Int) (v : Value) (qs : List Int) (W : World) (hR : Rd W 1 v qs.length (qs.flatMap inC)) :
    Calls Try.prog 6 #[.int .i64 c, v] W fun e w' => e = .returned (.bool true) ∧ Below W.heap.size W w' := by
  obtain ⟨A, cap, hv, hcap, hnc⟩ := hR.shape
  obtain ⟨n, hn⟩ : ∃ n, qs.length = n := ⟨_, rfl⟩
  have HR := Lib.hid hR
  have HN := Lib.hid hn
  rw [hn] at hv hnc
  subst hv
  clear hR hn
  go_enter Try.func6, Try.ntmps6
  go_wp2_with fail
  refine (awake09 _).mono ?_
  rintro e w1 ⟨rfl, hb1⟩
  have HB1 := Lib.hid hb1
  clear hb1
  by_cases h1 : (100 : Int) < (n : Int)
  · go_wp2_with fail
    go_ret
    exact ⟨rfl, HB1.out⟩
  · have hn100 : n ≤ 100 := by omega
    go_wp2_with fail
    go_loopw [6, 7, 8] (RunsC W c n) (fun _ _ s8 _ => n - (intOf s8).toNat)
    case atStart => exact ⟨0, 0, 0, [], none, 0, by omega, by omega, rfl, rfl, rfl, .inl ⟨rfl, rfl⟩, Rd.nil_ _ _, HB1.out⟩
    case round =>
      obtain ⟨k, q, a, l, Al, capl, hk, hqk, rfl, rfl, rfl, hst, hRl, hbel⟩ := hrel
      have HS := Lib.hid hst
      have HRL := Lib.hid hRl
      have HB := Lib.hid hbel
      have hll : l.length ≤ 1 := by rcases hst with ⟨_, rfl⟩ | ⟨_, rfl⟩ <;> simp
      clear hst hRl hbel
      by_cases hlt : k < n
      · have hltI : (k : Int) < (n : Int) := by omega
        have hR1 := HR.out.below HB.out (Nat.le_refl _)
        rw [HN.out] at hR1
        obtain ⟨b, off, hA, hbl⟩ := hR1.addr (by omega)
        subst hA
        have c0 := rd_int hR1 k (by rw [HN.out]; exact hlt)
        obtain ⟨z, hz⟩ : ∃ z, at_ qs k = z := ⟨_, rfl⟩
        rw [hz] at c0
        have HZ := Lib.hid hz
        have HR1 := Lib.hid hR1
        clear hz hR1
        go_wp2_with fail
        refine (put_any _ l c z _ wr (by omega) HRL.out).mono ?_
        rintro e w2 ⟨v2, rfl, ho2, hb2⟩
        obtain ⟨A2, cap2, hv2⟩ := ho2.slice_
        subst hv2
        have HO2 := Lib.hid ho2
        have c0' := rd_int (HR1.out.below hb2 (Nat.le_refl _)) k (by rw [HN.out]; exact hlt)
        rw [HZ.out] at c0'
        have HB2 := Lib.hid (HB.out.trans (hb2.mono HB.out.size))
        have HRL2 := Lib.hid (HRL.out.below hb2 (Nat.le_refl _))
        clear hb2 ho2 c0
        simp only
        obtain ⟨e0, he0⟩ : ∃ e0, putSE l c z = e0 := ⟨_, rfl⟩
        rw [he0]
        have HE := Lib.hid he0
        clear he0
        by_cases hz : e0 = 0
        · subst hz
          obtain ⟨g1, g2, g3, g4⟩ := putSE_ok HE.out
          obtain ⟨o1, o2⟩ := one_ses HS.out
          have hzq : z = (q : Int) + 1 := by rw [g3, o1]
          subst hzq
          generalize hav : (5 * (k : Int)) = av at *
          have hpo : putO l (c, (q : Int) + 1, av) = [(c, (q : Int) + 1, av)] := by unfold putO; rw [if_pos (show putSE l c ((q : Int) + 1) = 0 from HE.out)]; exact o2 _ rfl
          rw [hpo] at HO2 ⊢
          simp only [List.length_singleton] at HO2 ⊢
          clear hpo g1 g2 g3 g4 o1 o2
          go_wp2_with fail
          go_roundw
          case rel => exact ⟨k + 1, q + 1, av, [(c, (q : Int) + 1, av)], A2, cap2, by omega, by omega, by go_num, by go_num, rfl, .inr ⟨by omega, rfl⟩, HO2.out.rd, HB2.out⟩
          case measure => simp [intOf]; omega
        · have hz' : (e0 != 0) = true := by simpa using hz
          go_wp2_with fail
          go_roundw
          case rel => exact ⟨k + 1, q, a, l, Al, capl, by omega, by omega, by go_num, rfl, rfl, HS.out, HRL2.out, HB2.out⟩
          case measure => simp [intOf]; omega
      · obtain rfl : k = n := by omega
        rcases HS.out with ⟨hq0, rfl⟩ | ⟨hq0, rfl⟩
        · obtain rfl : q = 0 := by omega
          simp only [List.length_nil] at HRL ⊢
          go_wp2_with fail
          go_ret
          exact ⟨rfl, HB.out⟩
        · have hqz : ((q : Int) == 0) = false := by simpa using (by omega : ¬ (q : Int) = 0)
          simp only [List.length_singleton] at HRL ⊢
          go_wp2_with fail
          go_ret
          exact ⟨rfl, HB.out⟩

end Go.Proofs.Ytjjpoialoabfoaa

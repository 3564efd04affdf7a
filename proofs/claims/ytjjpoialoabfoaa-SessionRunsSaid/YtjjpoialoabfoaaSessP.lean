/- session.Put: its contract. -/
import Derived.Test.YtjjpoialoabfoaaSess
namespace Go.Proofs.Ytjjpoialoabfoaa
open Go Go.RowKit

theorem lookS_ok {l : List Se} {c q : Int} (h : (lookS l c q).2.2 = 0) : MaySL l ∧ maySP (c, q, 0) := by
  unfold lookS at h
  split at h
  · simp at h
  · rename_i hh
    have h1 : maySL l = true := by
      cases e : maySL l with
      | true => rfl
      | false => exact absurd (.inl e) hh
    have h2 : mayS (c, q, 0) = true := by
      cases e : mayS (c, q, 0) with
      | true => rfl
      | false => exact absurd (.inr e) hh
    exact ⟨of_decide_eq_true h1, of_decide_eq_true h2⟩

def putO (l : List Se) (x : Se) : List Se := if putSE l x.1 x.2.1 = 0 then putS l x else []
def PutE (l : List Se) (x : Se) (w : World) (e : Ending) (w' : World) : Prop :=
  ∃ v', e = .returned (.tuple #[v', .int .i64 (putSE l x.1 x.2.1)]) ∧ Own w' w.heap.size 37 3 v' (putO l x).length ((putO l x).flatMap seC) ∧ Below w.heap.size w w'

theorem ints3s (a b c : Int) : (#[.int .i64 a, .int .i64 b, .int .i64 c] : Array Value).all (·.oneCell') = true := by simp [Value.oneCell']

set_option maxHeartbeats 4000000 in
theorem put_any (v : Value) (l : List Se) (c q a : Int) (w : World) (hl : l.length ≤ 500) (hR : Rd w 3 v l.length (l.flatMap seC)) :
    Calls Try.prog 13 #[v, .int .i64 c, .int .i64 q, .int .i64 a] w (PutE l (c, q, a) w) := by
  obtain ⟨A, cap, hv, hcap, hnc⟩ := hR.shape
  obtain ⟨n, hn⟩ : ∃ n, l.length = n := ⟨_, rfl⟩
  have HR := Lib.hid hR
  have HN := Lib.hid hn
  rw [hn] at hv hnc hl
  subst hv
  clear hR hn
  go_enter Try.func13, Try.ntmps13
  go_wp2_with fail
  refine (look_any _ l c q w (by have := HN.out; omega) HR.out).mono ?_
  rintro e w1 ⟨rfl, hb1⟩
  have HB1 := Lib.hid hb1
  have HE : Hid (putSE l c q = _) := rfl
  have HO := Lib.hid (fun h => lookS_ok (l := l) (c := c) (q := q) h)
  unfold putSE at HE
  clear hb1
  obtain ⟨a0, t0, e0, hlk⟩ : ∃ a0 t0 e0, lookS l c q = (a0, t0, e0) := ⟨_, _, _, rfl⟩
  rw [hlk] at HE HO ⊢
  have HLK := Lib.hid hlk
  clear hlk
  simp only at HE HO
  go_wp2_with fail
  have hR1 := HR.out.below HB1.out (Nat.le_refl _)
  refine (by have := sfind_any A cap l c w1 (by have := HN.out; omega) (by rw [HN.out]; rw [HN.out] at hR1; exact hR1); rw [HN.out] at this; exact this : Calls Try.prog 17 #[.slice A n cap, .int .i64 c] _ (SearchE_se l c w1)).mono ?_
  rintro e w2 ⟨i, b, hi, rfl, hb2, hcut⟩
  have HB2 := Lib.hid (below_then HB1.out hb2)
  have HC := Lib.hid hcut
  rw [HN.out] at hi
  clear hb2 hcut hR1
  by_cases he : e0 = 0
  · subst he
    have hml := HO.out rfl
    obtain ⟨hcut, hbeq⟩ := HC.out hml.1.ris
    subst hbeq
    have hfd := hcut.isAt_iff hml.1.ris
    have hpeq := putAt_eq (x := (c, q, a)) hml.1.ris hcut
    have HPE := Lib.hid hpeq
    have HFD := Lib.hid hfd
    have HCU := Lib.hid hcut
    clear hml hcut hfd hpeq HC
    cases t0 with
    | true =>
      have e6 : putSE l c q = 6 := by unfold putSE; rw [HLK.out]; simp
      have E6 := Lib.hid e6
      clear e6
      go_wp2_with fail
      go_ret2
      refine ⟨_, by show _ = Ending.returned (.tuple #[_, .int .i64 (putSE l c q)]); rw [E6.out]; rfl, ?_, HB2.out⟩
      rw [show putO l (c, q, a) = [] by unfold putO; rw [if_neg (by show ¬ putSE l c q = 0; rw [E6.out]; omega)]]
      exact Own.nil_ _ _ _ _
    | false =>
      cases hat : isAt key_se l c i with
      | true =>
        rw [hat] at HFD
        have e6 : putSE l c q = 0 := by unfold putSE; rw [HLK.out]; simp; intro h; have := HFD.out; simp at this; exact absurd h (by simpa using this)
        have E6 := Lib.hid e6
        obtain ⟨hil, hie⟩ := of_decide_eq_true hat
        have HPO : Hid (putO l (c, q, a) = l.set i (c, q, a)) := by show putO l (c, q, a) = _; unfold putO; rw [if_pos (show putSE l c q = 0 from e6), ← HPE.out]; unfold putAt; rw [if_pos hat]
        clear e6 hat
        rw [HN.out] at hil
        go_wp2_with fail
        refine (clone_se _ l w2 (by have := HN.out; omega) (HR.out.below HB2.out (Nat.le_refl _))).mono ?_
        rintro e w3 ⟨v3, rfl, ho3, hb3⟩
        rw [HN.out] at ho3
        obtain ⟨g, off, cap3, hv3, hnc3, hcm3, hbg3, hgl3, hbk3⟩ := ho3.form (by omega)
        subst hv3
        have HO3 := Lib.hid ho3
        have HB3 := Lib.hid (below_then HB2.out hb3)
        have hs2 := HB2.out.size
        have hiI : (i : Int) < (n : Int) := by omega
        clear ho3 hb3 hbk3
        go_wp2_with (with_reducible refine wpList_store_own rfl 37 (.tmp 59) (.tmp 58) rfl HO3.out (i * 3) #[.int .i64 c, .int .i64 q, .int .i64 a] rfl rfl ?h1 ?h0 ?h2 ?h3 ?h4)
        case h0 => omega
        case h1 => show i * 3 + 3 ≤ n * 3; omega
        case h2 => kernel_rfl
        case h3 => exact ints3s _ _ _
        case h4 =>
          intro w4 ho4 hf4
          have HO4 := Lib.hid ho4
          have HF4 := Lib.hid hf4
          clear ho4 hf4
          go_wp2_with fail
          go_ret2
          refine ⟨_, by show _ = Ending.returned (.tuple #[_, .int .i64 (putSE l c q)]); rw [E6.out]; rfl, ?_, HB3.out.trans (HF4.out.below (by have := HB3.out.size; omega) (fun k hk => by omega))⟩
          rw [HPO.out, ← flat_setL seC 3 seC_len (by omega) l i (c, q, a) (by rw [HN.out]; exact hil), List.length_set, HN.out]
          exact HO4.out.mono hs2
      | false =>
        rw [hat] at HFD
        have hnone : (l.find? (fun x => key_se x == c)).isNone = true := by have := HFD.out; cases h : l.find? (fun x => key_se x == c) with
          | none => rfl
          | some y => rw [h] at this; simp at this
        by_cases h16 : 16 ≤ n
        · have e6 : putSE l c q = 7 := by unfold putSE; rw [HLK.out]; simp [HN.out, h16]; simpa using hnone
          have E6 := Lib.hid e6
          have h16I : (16 : Int) ≤ (n : Int) := by omega
          clear e6 hat hnone
          go_wp2_with fail
          go_ret2
          refine ⟨_, by show _ = Ending.returned (.tuple #[_, .int .i64 (putSE l c q)]); rw [E6.out]; rfl, ?_, HB2.out⟩
          rw [show putO l (c, q, a) = [] by unfold putO; rw [if_neg (by show ¬ putSE l c q = 0; rw [E6.out]; omega)]]
          exact Own.nil_ _ _ _ _
        · have e6 : putSE l c q = 0 := by unfold putSE; rw [HLK.out]; simp [HN.out, h16]
          have E6 := Lib.hid e6
          have HPO : Hid (putO l (c, q, a) = l.take i ++ (c, q, a) :: l.drop i) := by show putO l (c, q, a) = _; unfold putO; rw [if_pos (show putSE l c q = 0 from e6), ← HPE.out]; unfold putAt; rw [if_neg (by simp [hat])]
          have hd16 : decide ((16 : Int) ≤ (n : Int)) = false := decide_eq_false (by omega)
          clear e6 hat hnone
          go_wp2_with fail
          refine (clone_se _ l w2 (by have := HN.out; omega) (HR.out.below HB2.out (Nat.le_refl _))).mono ?_
          rintro e w3 ⟨v3, rfl, ho3, hb3⟩
          have HO3 := Lib.hid ho3
          have HB3 := Lib.hid (below_then HB2.out hb3)
          have hs2 := HB2.out.size
          have hs3 := hb3.size
          clear ho3 hb3
          go_wp2_with fail
          have hal := below_one w3 (.cells (seC (0, 0, 0)).toArray 37)
          have hbx := Bx.new w3 37 (seC (0, 0, 0))
          refine (insert_se w2.heap.size v3 l (0, 0, 0) i w3.heap.size (w3.alloc (.cells (seC (0, 0, 0)).toArray 37)) (by have := HN.out; omega) (by have := HN.out; omega) (HO3.out.alloc _) hbx (by simp; omega) (fun g hg e => by have := (HO3.out.blk_lt hg).2; omega)).mono ?_
          rintro e w4 ⟨v4, rfl, ho4, hf4, hk4⟩
          have hln : (l.take i ++ (0, 0, 0) :: l.drop i).length = n + 1 := by have := HN.out; simp; omega
          rw [hln] at ho4
          obtain ⟨g, off, cap4, hv4, hnc4, hcm4, hbg4, hgl4, hbk4⟩ := ho4.form (by omega)
          subst hv4
          have hgb : w.heap.size ≤ g := by omega
          have HO4 := Lib.hid ho4
          have HB4 := Lib.hid (below_then HB3.out hal |>.trans (hf4.below (B := w.heap.size) (by simp; omega) (fun k hk => by have := (HO3.out.blk_lt hk).1; omega)))
          have HLN := Lib.hid hln
          have hiI : (i : Int) < (n : Int) + 1 := by omega
          clear ho4 hf4 hk4 hal hbx hbk4 hln
          go_wp2_with (with_reducible refine wpList_store_own rfl 37 (.tmp 59) (.tmp 58) rfl HO4.out (i * 3) #[.int .i64 c, .int .i64 q, .int .i64 a] rfl rfl ?h1 ?h0 ?h2 ?h3 ?h4)
          case h0 => omega
          case h1 => show i * 3 + 3 ≤ (n + 1) * 3; omega
          case h2 => kernel_rfl
          case h3 => exact ints3s _ _ _
          case h4 =>
            intro w5 ho5 hf5
            have HO5 := Lib.hid ho5
            have HF5 := Lib.hid hf5
            clear ho5 hf5
            go_wp2_with fail
            go_ret2
            refine ⟨_, by show _ = Ending.returned (.tuple #[_, .int .i64 (putSE l c q)]); rw [E6.out]; rfl, ?_, HB4.out.trans (HF5.out.below (by have := HB4.out.size; omega) (fun k hk => by omega))⟩
            have hset : (l.take i ++ (0, 0, 0) :: l.drop i).set i (c, q, a) = l.take i ++ (c, q, a) :: l.drop i := by
              have hti : (l.take i).length = i := by have := HN.out; simp; omega
              rw [List.set_append_right _ _ (by omega), hti, Nat.sub_self]
              rfl
            have hfs := flat_setL seC 3 seC_len (by omega) (l.take i ++ (0, 0, 0) :: l.drop i) i (c, q, a) (by rw [HLN.out]; omega)
            rw [hset, List.flatMap_append, List.flatMap_cons] at hfs
            have hln2 : (l.take i ++ (c, q, a) :: l.drop i).length = n + 1 := by have := HN.out; simp; omega
            rw [HPO.out, ← hfs, hln2]
            exact HO5.out.mono hs2
  · have he' : (e0 != 0) = true := by simpa using he
    have e6 : putSE l c q = e0 := by unfold putSE; rw [HLK.out]; simp [he]
    have E6 := Lib.hid e6
    clear e6
    go_wp2_with fail
    go_ret2
    refine ⟨_, by show _ = Ending.returned (.tuple #[_, .int .i64 (putSE l c q)]); rw [E6.out]; rfl, ?_, HB2.out⟩
    rw [show putO l (c, q, a) = [] by unfold putO; rw [if_neg (by show ¬ putSE l c q = 0; rw [E6.out]; exact he)]]
    exact Own.nil_ _ _ _ _

end Go.Proofs.Ytjjpoialoabfoaa

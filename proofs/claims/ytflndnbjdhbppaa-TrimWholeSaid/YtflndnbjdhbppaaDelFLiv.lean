/- slices.IndexFunc and DeleteFunc at []int with the closure suture/queue.living$1: their contracts. -/
import Derived.Test.YtflndnbjdhbppaaIntsF
namespace Go.Proofs.Ytflndnbjdhbppaa
open Go Go.RowKit

def Pred_liv (B : Nat) (w : World) (c1 : Value) (p : Int → Bool) : Prop := ∀ (z : Int) (W : World), Below B w W → Calls Try.prog 63 #[.int .i64 z, c1] W fun e w' => e = .returned (.bool (p z)) ∧ Below W.heap.size W w'

def IdxE_liv (l : List Int) (p : Int → Bool) (w : World) (e : Ending) (w' : World) : Prop :=
  ((∃ k : Nat, k < l.length ∧ p (at_ l k) = true ∧ (∀ j, j < k → p (at_ l j) = false) ∧ e = .returned (.int .i64 k)) ∨ ((∀ j, j < l.length → p (at_ l j) = false) ∧ e = .returned (.int .i64 (-1)))) ∧ Below w.heap.size w w'

set_option maxHeartbeats 1000000 in
theorem indexF_liv (B : Nat) (v : Value) (l : List Int) (c1 : Value) (p : Int → Bool) (w : World) (hB : B ≤ w.heap.size) (hR : Rd w 1 v l.length (l.flatMap inC)) (hp : Pred_liv B w c1 p) :
    Calls Try.prog 62 #[v, .func (.func 63) #[] #[c1]] w (IdxE_liv l p w) := by
  obtain ⟨A, cap, hv, hcap, hnc⟩ := hR.shape
  obtain ⟨n, hn⟩ : ∃ n, l.length = n := ⟨_, rfl⟩
  have HR := Lib.hid hR
  have HN := Lib.hid hn
  have HP := Lib.hid hp
  rw [hn] at hv hnc
  subst hv
  clear hR hn hp
  go_enter Try.func62, Try.ntmps62
  go_wp2_with fail
  go_loopw [8] (fun i wr => ∃ k : Nat, k ≤ n ∧ i = .int .i64 k ∧ (∀ j, j < k → p (at_ l j) = false) ∧ Below w.heap.size w wr) (fun i _ => n - (intOf i).toNat)
  case atStart => exact ⟨0, Nat.zero_le _, rfl, fun j hj => absurd hj (by omega), Below.refl _ _⟩
  case round =>
    obtain ⟨k, hk, rfl, hall, hbel⟩ := hrel
    have HA := Lib.hid hall
    have HB := Lib.hid hbel
    clear hall hbel
    by_cases hlt : k < n
    · have hltI : (k : Int) < (n : Int) := by omega
      have hR1 := HR.out.below HB.out (Nat.le_refl _)
      rw [HN.out] at hR1
      obtain ⟨b, off, hA, hbl⟩ := hR1.addr (by omega)
      subst hA
      have c0 := rd_int hR1 k (by rw [HN.out]; exact hlt)
      obtain ⟨x, hx⟩ : ∃ x, at_ l k = x := ⟨_, rfl⟩
      rw [hx] at c0
      have HX := Lib.hid hx
      clear hx hR1
      go_wp2_with fail
      refine (HP.out x wr (HB.out.mono hB)).mono ?_
      rintro e w1 ⟨rfl, hb1⟩
      have HB1 := Lib.hid (below_then HB.out hb1)
      clear hb1
      cases hpx : p x with
      | true =>
        have HPX := Lib.hid hpx
        clear hpx
        go_wp2_with fail
        go_ret
        exact ⟨.inl ⟨k, by rw [HN.out]; exact hlt, by rw [HX.out]; exact HPX.out, HA.out, rfl⟩, HB1.out⟩
      | false =>
        have HPX := Lib.hid hpx
        clear hpx
        go_wp2_with fail
        go_roundw
        case rel => exact ⟨k + 1, by omega, by go_num, fun j hj => by
          by_cases e : j = k
          · subst e; rw [HX.out]; exact HPX.out
          · exact HA.out j (by omega), HB1.out⟩
        case measure => simp [intOf]; omega
    · obtain rfl : k = n := by omega
      go_wp2_with fail
      go_ret
      exact ⟨.inr ⟨by rw [HN.out]; exact HA.out, rfl⟩, HB.out⟩

theorem filter_none_liv {l : List Int} {p : Int → Bool} (h : ∀ j, j < l.length → p (at_ l j) = false) : l.filter (fun z => !p z) = l := List.filter_eq_self.2 fun y hy => by
  obtain ⟨j, hj, rfl⟩ := mem_at hy
  rw [h j hj]
  rfl
theorem filter_first_liv {l : List Int} {p : Int → Bool} {k : Nat} (hk : k < l.length) (h1 : p (at_ l k) = true) (h : ∀ j, j < k → p (at_ l j) = false) : (l.take (k + 1)).filter (fun z => !p z) = l.take k := by
  rw [take_at hk, List.filter_append]
  have e1 : (l.take k).filter (fun z => !p z) = l.take k := List.filter_eq_self.2 fun y hy => by
    obtain ⟨j, hj, rfl⟩ := List.mem_iff_getElem.1 hy
    rw [List.getElem_take]
    rw [List.length_take] at hj
    have := h j (by omega)
    rw [at_eq (show j < l.length by omega)] at this
    rw [this]
    rfl
  rw [e1]
  simp [h1]

def DelE_liv (base : Nat) (l : List Int) (p : Int → Bool) (w : World) (e : Ending) (w' : World) : Prop :=
  ∃ v', e = .returned v' ∧ Own w' base 3 1 v' (l.filter (fun z => !p z)).length ((l.filter (fun z => !p z)).flatMap inC) ∧ Below base w w'

set_option maxHeartbeats 2000000 in
set_option maxRecDepth 100000 in
theorem deleteF_liv (base : Nat) (v : Value) (l : List Int) (c1 : Value) (p : Int → Bool) (w : World) (hl : l.length ≤ 1000) (hB : base ≤ w.heap.size) (hown : Own w base 3 1 v l.length (l.flatMap inC)) (hp : Pred_liv base w c1 p) :
    Calls Try.prog 40 #[v, .func (.func 63) #[] #[c1]] w (DelE_liv base l p w) := by
  obtain ⟨A, cap, hv⟩ := hown.slice_
  obtain ⟨n, hn⟩ : ∃ n, l.length = n := ⟨_, rfl⟩
  have HO := Lib.hid hown
  have HN := Lib.hid hn
  have HP := Lib.hid hp
  rw [hn] at hv hl
  subst hv
  clear hown hn hp
  go_enter Try.func40, Try.ntmps40
  go_wp2_with fail
  refine (indexF_liv base _ l c1 p w hB HO.out.rd HP.out).mono ?_
  rintro e w1 ⟨hcase, hb1⟩
  have HO1 := Lib.hid (HO.out.below hb1 (Nat.le_refl _))
  have HB1 := Lib.hid (hb1.mono hB)
  have hs1 := hb1.size
  clear hb1
  rcases hcase with ⟨k, hk, hpk, hpj, rfl⟩ | ⟨hall, rfl⟩
  · rw [HN.out] at hk
    have HF := Lib.hid (filter_first_liv (by rw [HN.out]; exact hk) hpk hpj)
    clear hpk hpj
    have hO1 := HO1.out
    rw [HN.out] at hO1
    obtain ⟨g, off, cap', hv', hnc, hcm, hbg, hgl, hbk⟩ := hO1.form (by omega)
    injection hv' with hA _ hcc
    subst hA hcc
    have HO1n := Lib.hid hO1
    have hk1 : ¬ (k : Int) = -1 := by omega
    have hk1' : ((k : Int) == -1) = false := by simp
    have hcap0 : 0 < cap := by omega
    have hcap63 : cap ≤ 9223372036854775807 := by unfold maxLen at hcm; omega
    clear hO1 hbk hcm
    go_wp2_with fail
    go_loopw [5, 6] (fun s5 s6 wr => ∃ (i j : Nat) (ys : List Int), s5 = .int .i64 i ∧ s6 = .int .i64 j ∧ i < j ∧ j ≤ n ∧ ys.length = n ∧ ys.take i = (l.take j).filter (fun z => !p z) ∧ ys.drop j = l.drop j ∧ Own wr base 3 1 (.slice (some ⟨g, off, none⟩) n cap) n (ys.flatMap inC) ∧ Below base w wr) (fun _ s6 _ => n - (intOf s6).toNat)
    case atStart => exact ⟨k, k + 1, l, rfl, by go_num, by omega, by omega, HN.out, HF.out.symm, rfl, HO1n.out, HB1.out⟩
    case round =>
      obtain ⟨i, j, ys, rfl, rfl, hij, hjn, hyl, hyt, hyd, hown, hbel⟩ := hrel
      have HYL := Lib.hid hyl
      have HYT := Lib.hid hyt
      have HYD := Lib.hid hyd
      have HOR := Lib.hid hown
      have HBL := Lib.hid hbel
      have hsr := hbel.size
      clear hyl hyt hyd hown hbel
      by_cases hlt : j < n
      · have hltI : (j : Int) < (n : Int) := by omega
        have c0 := rd_int HOR.out.rd j (by rw [HYL.out]; exact hlt)
        have hyj : at_ ys j = at_ l j := by
          have h1 := drop_at (l := ys) (i := j) (by rw [HYL.out]; exact hlt)
          have h2 := drop_at (l := l) (i := j) (by rw [HN.out]; exact hlt)
          rw [HYD.out, h2] at h1
          exact (List.cons.inj h1).1.symm
        have hydS : ys.drop (j + 1) = l.drop (j + 1) := by
          have := HYD.out
          have h3 : (ys.drop j).drop 1 = (l.drop j).drop 1 := by rw [this]
          rw [List.drop_drop, List.drop_drop] at h3
          exact h3
        have htk := take_at (l := l) (i := j) (by rw [HN.out]; exact hlt)
        rw [hyj] at c0
        obtain ⟨x, hx⟩ : ∃ x, at_ l j = x := ⟨_, rfl⟩
        rw [hx] at c0 htk
        have HTK := Lib.hid htk
        have HYS := Lib.hid hydS
        clear hyj hydS htk hx
        have hzf := HOR.out.frozen hcap0 (off + i)
        have hci : ∃ u, wr.cell? ⟨g, off + i, none⟩ = some u := ⟨_, rd_int HOR.out.rd i (by rw [HYL.out]; omega)⟩
        obtain ⟨u, hu⟩ := hci
        go_wp2_with fail
        refine (HP.out x wr HBL.out).mono ?_
        rintro e w2 ⟨rfl, hb2⟩
        have HO2 := Lib.hid (HOR.out.below hb2 (Nat.le_refl _))
        have HB2 := Lib.hid (HBL.out.trans (hb2.mono (by omega)))
        have hz2 := HO2.out.frozen hcap0 (off + i)
        have hu2 := (hb2.cell (p := ⟨g, off + i, none⟩) (by show g < wr.heap.size; have := (HOR.out.lt hcap0).2; omega)).trans hu
        clear hb2 hu hzf c0
        cases hpx : p x with
        | true =>
          have HFS : Hid ((l.take (j + 1)).filter (fun z => !p z) = (l.take j).filter (fun z => !p z)) := by show (l.take (j + 1)).filter (fun z => !p z) = _; rw [HTK.out, List.filter_append]; simp [hpx]
          clear hpx
          go_wp2_with fail
          go_roundw
          case rel => exact ⟨i, j + 1, ys, rfl, by go_num, by omega, by omega, HYL.out, by rw [HFS.out]; exact HYT.out, HYS.out, HO2.out, HB2.out⟩
          case measure => simp [intOf]; omega
        | false =>
          have HFS : Hid ((l.take (j + 1)).filter (fun z => !p z) = (l.take j).filter (fun z => !p z) ++ [x]) := by show (l.take (j + 1)).filter (fun z => !p z) = _; rw [HTK.out, List.filter_append]; simp [hpx]
          clear hpx
          have hiI : (i : Int) < (n : Int) := by omega
          go_wp2_with fail
          go_roundw
          case rel =>
            refine ⟨i + 1, j + 1, ys.set i x, by go_num, by go_num, by omega, by omega, by rw [List.length_set]; exact HYL.out, ?_, ?_, ?_, HB2.out.setCell (show base ≤ g by omega) _⟩
            · rw [HFS.out, ← HYT.out, List.take_succ_eq_append_getElem (by rw [List.length_set, HYL.out]; omega), List.getElem_set_self, List.take_set_of_le (Nat.le_refl _)]
            · rw [List.drop_set, if_pos (by omega)]
              exact HYS.out
            · have h1 := HO2.out.set_ i (by omega) (.int .i64 x)
              have h2 := flat_setL inC 1 inC_len (by omega) ys i x (by rw [HYL.out]; omega)
              rw [Nat.mul_one] at h2
              rw [← h2]
              exact h1
          case measure => simp [intOf]; omega
      · obtain rfl : j = n := by omega
        have hci : (cap == i) = false := by simpa using (by omega : ¬ cap = i)
        have hiI : (i : Int) ≤ (j : Int) := by omega
        go_wp2_with (with_reducible refine wpList_clear_own (j := i) (oj := off + i) (m := j - i) (c := cap - i) rfl (.tmp 38) 37 rfl (.int .i64 0) Try.underlying37 (fun w => by kernel_rfl) rfl (by simp [Value.cells, Value.oneCell']) HOR.out hcap0 ?c1 rfl ?c2 ?c3 ?c4)
        case c1 => rfl
        case c2 => omega
        case c3 => show i + (j - i) * 1 ≤ j * 1; omega
        case c4 =>
          intro w3 ho3 hf3
          have HO3 := Lib.hid ho3
          have HB3 := Lib.hid (HBL.out.trans (hf3.below (by omega) (fun k hk => (by rw [hk]; exact hbg))))
          clear ho3 hf3
          have hicap : i ≤ cap := by omega
          go_wp2_with fail
          go_ret
          have hlen : (l.filter (fun z => !p z)).length = i := by
            have h1 := congrArg List.length HYT.out
            rw [← HN.out, List.take_length, List.length_take, HYL.out] at h1
            omega
          refine ⟨_, rfl, ?_, HB3.out⟩
          have h4 := HO3.out.cutEnd (k := i) (by omega)
          have h5 : (setL (ys.flatMap inC) i (Builtin.zeroCells #[Value.int .i64 0] (j - i)).toList).take (i * 1) = (l.filter (fun z => !p z)).flatMap inC := by
            have h6 := HYT.out
            rw [← HN.out, List.take_length] at h6
            rw [← h6, ← flat_take inC 1 inC_len]
            apply List.ext_getElem?
            intro q
            rw [List.getElem?_take, List.getElem?_take]
            by_cases hq : q < i * 1
            · rw [if_pos hq, if_pos hq, setL_get, if_neg (by omega)]
            · rw [if_neg hq, if_neg hq]
          rw [h5] at h4
          rw [hlen]
          exact h4
  · have HF := Lib.hid (filter_none_liv hall)
    clear hall
    go_wp2_with fail
    go_ret
    refine ⟨_, rfl, ?_, HB1.out⟩
    rw [HF.out]
    exact HO1.out

end Go.Proofs.Ytflndnbjdhbppaa

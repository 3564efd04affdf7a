/- nodes.Set: its contract. -/
import Derived.Test.YthmifcbhbcjeiaaNodesF
namespace Go.Proofs.Ythmifcbhbcjeiaa
open Go Go.RowKit

theorem flat_set {α : Type} (f : α → List Value) (k : Nat) (hk : ∀ x, (f x).length = k) (d : List α) (i j : Nat) (x' : α) (u : Value) (hi : i < d.length) (hj : j < k) (hx : f x' = (f d[i]).set j u) :
    (d.flatMap f).set (i * k + j) u = (d.set i x').flatMap f := by
  apply List.ext_getElem?
  intro p
  have h0 : 0 < k := by omega
  have hp : p / k * k + p % k = p := by rw [Nat.mul_comm]; exact Nat.div_add_mod p k
  have hr := Nat.mod_lt p h0
  generalize p / k = q at *
  generalize p % k = r at *
  subst hp
  rw [List.getElem?_set, flat_get f k hk _ _ _ hr, flat_get f k hk _ _ _ hr, List.getElem?_set, flat_len f k hk]
  have hb : i * k + j < d.length * k := by
    have : (i + 1) * k ≤ d.length * k := Nat.mul_le_mul_right _ hi
    rw [Nat.add_mul] at this
    omega
  by_cases e : i = q
  · subst e
    rw [if_pos rfl, if_pos hi]
    simp only [Option.bind_some, hx, List.getElem?_set, hk]
    by_cases e2 : j = r
    · subst e2
      rw [if_pos rfl, if_pos hb, if_pos rfl, if_pos hj]
    · rw [if_neg (by omega), if_neg e2, List.getElem?_eq_getElem hi]
      rfl
  · rw [if_neg e, if_neg]
    intro h
    apply e
    rcases Nat.lt_trichotomy i q with h1 | h1 | h1
    · have : (i + 1) * k ≤ q * k := Nat.mul_le_mul_right _ h1
      rw [Nat.add_mul] at this
      omega
    · exact h1
    · have : (q + 1) * k ≤ i * k := Nat.mul_le_mul_right _ h1
      rw [Nat.add_mul] at this
      omega

def withS (x : Nq) (st : Int) : Nq := (x.1, x.2.1, x.2.2.1, st)
def setIn (l : List Nq) (id st : Int) : List Nq := l.map fun x => if noI x = id then withS x st else x
/-- What Set answers. -/
def setE (l : List Nq) (id st : Int) : Int :=
  match findL l id with
  | none => 5
  | some x => if btw 0 2 st = false then 1 else if x.2.2.2 = 2 ∨ (x.2.2.2 = 0 ∧ st = 2) then 8 else 0
def setO (l : List Nq) (id st : Int) : List Nq := if setE l id st = 0 then setIn (fairL l) id st else []

theorem setIn_at {l : List Nq} (h : Ris noI l) {id st : Int} {i : Nat} (hi : i < l.length) (he : noI (at_ l i) = id) : setIn l id st = l.set i (withS (at_ l i) st) := by
  unfold setIn
  apply List.ext_getElem?
  intro j
  rw [List.getElem?_map, List.getElem?_set]
  by_cases hj : j < l.length
  · by_cases e : i = j
    · subst e
      rw [if_pos rfl, if_pos hi, at_get hi]
      simp [he]
    · rw [if_neg e, at_get hj]
      simp only [Option.map_some, Option.some.injEq]
      rw [if_neg]
      intro h1
      exact e (h.inj hi hj (by rw [he, h1]))
  · rw [List.getElem?_eq_none (by omega)]
    by_cases e : i = j
    · omega
    · rw [if_neg e]; rfl
theorem setIn_len (l : List Nq) (id st : Int) : (setIn l id st).length = l.length := by simp [setIn]

def SetE (l : List Nq) (id st : Int) (w : World) (e : Ending) (w' : World) : Prop :=
  ∃ v', e = .returned (.tuple #[v', .int .i64 (setE l id st)]) ∧ Own w' w.heap.size 28 4 v' (setO l id st).length ((setO l id st).flatMap noC) ∧ Below w.heap.size w w'

set_option maxHeartbeats 2000000 in
theorem set_any (v : Value) (l : List Nq) (id st : Int) (w : World) (hl : l.length ≤ 1000) (hR : Rd w 4 v l.length (l.flatMap noC)) :
    Calls Try.prog 25 #[v, .int .i64 id, .int .i64 st] w (SetE l id st w) := by
  have HR := Lib.hid hR
  clear hR
  have hfl := fairL_len l
  go_enter Try.func25, Try.ntmps25
  go_wp2_with fail
  refine (fair_any v l _ hl HR.out).mono ?_
  rintro e w1 ⟨v1, rfl, hown1, hb1⟩
  obtain ⟨A1, cap1, hv1⟩ := hown1.slice_
  subst hv1
  obtain ⟨m, hm⟩ : ∃ m, (fairL l).length = m := ⟨_, rfl⟩
  have HM := Lib.hid hm
  have HO1 := Lib.hid hown1
  have HB1 := Lib.hid hb1
  rw [hm] at hfl ⊢
  clear hown1 hb1 hm
  go_wp2_with fail
  refine (by have := place_any A1 cap1 (fairL l) id w1 (by rw [HM.out]; omega) HO1.out.rd (fairL_ris l); rw [HM.out] at this; exact this : Calls Try.prog 42 #[.slice A1 m cap1, .int .i64 id] w1 (SearchE (fairL l) id w1)).mono ?_
  rintro e w2 ⟨i, hc, rfl, hb2⟩
  have hfd := hc.find (fairL_ris l)
  have HFD := Lib.hid (show findL l id = _ from hfd)
  have HB2 := Lib.hid (below_then HB1.out hb2)
  have HO2 := Lib.hid (HO1.out.below hb2 (Nat.le_refl _))
  have hle := hc.le
  clear hc hb2 hfd
  cases hat : isAt noI (fairL l) id i with
  | false =>
    have HE : Hid (setE l id st = 5) := by have h1 := HFD.out; rw [hat] at h1; show setE l id st = 5; unfold setE; rw [h1]; rfl
    clear hat
    go_wp2_with fail
    go_ret2
    refine ⟨_, by rw [HE.out]; rfl, ?_, HB2.out⟩
    rw [show setO l id st = [] by unfold setO; rw [HE.out]; rfl]
    exact Own.nil_ _ _ _ _
  | true =>
    have hi := (of_decide_eq_true hat).1
    have hid := (of_decide_eq_true hat).2
    have HF : Hid (findL l id = some (at_ (fairL l) i)) := by have := HFD.out; rw [hat] at this; exact this
    have HSI := Lib.hid (setIn_at (st := st) (fairL_ris l) hi hid)
    clear hat hid
    obtain ⟨bs, hbs⟩ : ∃ bs, btw 0 2 st = bs := ⟨_, rfl⟩
    have HBS := Lib.hid hbs
    clear hbs
    rw [HM.out] at hi
    have hiI : (i : Int) < (m : Int) := by omega
    have hO2 := HO2.out
    rw [HM.out] at hO2
    obtain ⟨b, off, cap, hv, hmc, hcm, hbg, hbl, hbk⟩ := hO2.form (by omega)
    injection hv with hA _ hcc
    subst hA hcc
    obtain ⟨c0, c1, c2, c3⟩ := rd_no hO2.rd i (by rw [HM.out]; omega)
    have hz := hO2.frozen (by omega) (off + i * 4 + 1 + 1 + 1)
    obtain ⟨x, hx⟩ : ∃ x, at_ (fairL l) i = x := ⟨_, rfl⟩
    rw [hx] at c0 c1 c2 c3
    obtain ⟨x0, x1, x2, x3⟩ := x
    simp only at c0 c1 c2 c3
    have HX := Lib.hid hx
    have HO2m := Lib.hid hO2
    have HBK := Lib.hid hbk
    clear hx hO2 hbk hmc hcm
    have HSE : Hid (setE l id st = if btw 0 2 st = false then 1 else if x3 = 2 ∨ (x3 = 0 ∧ st = 2) then 8 else 0) := by show setE l id st = _; unfold setE; rw [HF.out, HX.out]
    cases bs with
    | false =>
      go_wp2_with (go_at_call 46; refine (between_any _ _ _ _).mono ?_; rintro e w' ⟨rfl, rfl⟩; rw [HBS.out])
      go_ret2
      have e1 : setE l id st = 1 := by rw [HSE.out, if_pos HBS.out]
      refine ⟨_, by rw [e1]; rfl, ?_, HB2.out⟩
      rw [show setO l id st = [] by unfold setO; rw [e1]; rfl]
      exact Own.nil_ _ _ _ _
    | true =>
      by_cases h2 : x3 = 2
      · subst h2
        go_wp2_with (go_at_call 46; refine (between_any _ _ _ _).mono ?_; rintro e w' ⟨rfl, rfl⟩; rw [HBS.out])
        go_ret2
        have e1 : setE l id st = 8 := by rw [HSE.out]; simp [HBS.out]
        refine ⟨_, by rw [e1]; rfl, ?_, HB2.out⟩
        rw [show setO l id st = [] by unfold setO; rw [e1]; rfl]
        exact Own.nil_ _ _ _ _
      · have h2' : (x3 == 2) = false := by simpa using h2
        by_cases h3 : x3 = 0 ∧ st = 2
        · obtain ⟨rfl, rfl⟩ := h3
          go_wp2_with (go_at_call 46; refine (between_any _ _ _ _).mono ?_; rintro e w' ⟨rfl, rfl⟩; rw [HBS.out])
          go_ret2
          have e1 : setE l id 2 = 8 := by rw [HSE.out]; simp [HBS.out]
          refine ⟨_, by rw [e1]; rfl, ?_, HB2.out⟩
          rw [show setO l id 2 = [] by unfold setO; rw [e1]; rfl]
          exact Own.nil_ _ _ _ _
        · have e1 : setE l id st = 0 := by rw [HSE.out, if_neg (by rw [HBS.out]; simp), if_neg (by omega)]
          have E1 := Lib.hid e1
          clear e1
          have fin : SetE l id st w (.returned (.tuple #[(.slice (some ⟨b, off, none⟩) m cap1), .int .i64 0])) (w2.setCell ⟨b, off + i * 4 + 1 + 1 + 1, none⟩ (.int .i64 st)) := by
            refine ⟨_, by rw [E1.out], ?_, HB2.out.setCell (show w.heap.size ≤ b by omega) _⟩
            have e2 : setO l id st = (fairL l).set i (withS (x0, x1, x2, x3) st) := by unfold setO; rw [if_pos E1.out, HSI.out, HX.out]
            have e3 := flat_set noC 4 noC_len (fairL l) i 3 (withS (x0, x1, x2, x3) st) (.int .i64 st) (by rw [HM.out]; exact hi) (by omega) (by rw [← at_eq, HX.out]; rfl)
            rw [e2, ← e3, List.length_set, HM.out]
            have := HO2m.out.set_ (i * 4 + 3) (by omega) (.int .i64 st)
            exact this
          have FIN := Lib.hid fin
          clear fin
          by_cases h4 : x3 = 0
          · subst h4
            have h5 : (st == 2) = false := by simpa using (by omega : ¬ st = 2)
            go_wp2_with (go_at_call 46; refine (between_any _ _ _ _).mono ?_; rintro e w' ⟨rfl, rfl⟩; rw [HBS.out])
            go_ret2
            exact FIN.out
          · have h5 : (x3 == 0) = false := by simpa using h4
            go_wp2_with (go_at_call 46; refine (between_any _ _ _ _).mono ?_; rintro e w' ⟨rfl, rfl⟩; rw [HBS.out])
            go_ret2
            exact FIN.out

end Go.Proofs.Ythmifcbhbcjeiaa

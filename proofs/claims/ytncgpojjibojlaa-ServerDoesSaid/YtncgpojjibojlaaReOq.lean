/- replica.Restart, Abort, Remove, Spoil, Has, Begin: their contracts. -/
import Derived.Test.YtncgpojjibojlaaReWq
import Derived.Deep.RegionHeld3
namespace Go.Proofs.Ytncgpojjibojlaa
open Go Go.RowKit Go.Sort

abbrev RR := Int × List Re
def FreshT (r : RR) (w : World) (e : Ending) (w' : World) : Prop := ∃ v', e = .returned (.tuple #[v', .int .i64 r.1]) ∧ Own w' w.heap.size 52 5 v' r.2.length (r.2.flatMap reC) ∧ Below w.heap.size w w'
def rstR (l : List Re) : List Re := (fairR l).filter (fun z => !z.2.2.2.1)
def abtR (l : List Re) (c : Int) : List Re := (fairR l).filter (fun z => !(z.1 == c && z.2.2.2.1))
def rmvR (l : List Re) (c : Int) : RR := if (findR (fairR l) c false).isSome then (0, (fairR l).filter (fun z => !(z.1 == c && !z.2.2.2.1))) else (5, [])
def badOf (x : Re) : Re := (x.1, x.2.1, x.2.2.1, x.2.2.2.1, true)
def splR (l : List Re) (c : Int) : RR := if (findR (fairR l) c false).isSome then (0, (fairR l).map (fun z => if kR z = 2 * c then badOf z else z)) else (5, [])
def hasR (l : List Re) (c v s : Int) : Bool := (findR (fairR l) c false).any (fun h => h == (c, v, s, false, false))
def bgnR (l : List Re) (x : Re) (room : Int) : RR :=
  if namedB x.1 x.2.1 = false then (1, [])
  else if (findR (fairR l) x.1 false).any (fun h => decide (h.2.1 ≥ x.2.1)) then (9, [])
  else if (findR (fairR l) x.1 true).any (fun t => decide (t.2.1 ≥ x.2.1)) then (6, [])
  else if (findR (fairR l) x.1 true).isNone && decide ((fairR l).length ≥ room) then (7, [])
  else (0, putR (fairR l) (x.1, x.2.1, x.2.2.1, true, false))
def cmtR (l : List Re) (c v : Int) : RR := match findR (fairR l) c true with
  | none => (5, [])
  | some t => if t.2.1 = v then (0, putR (dropR (fairR l) (2 * c + 1)) (t.1, t.2.1, t.2.2.1, false, t.2.2.2.2)) else (5, [])

theorem find_case {l : List Re} {c : Int} {t b : Bool} {i : Nat} (h : Ris kR l) (hc : Cut kR l (2 * c + flI t) i) (hb : b = isAt kR l (2 * c + flI t) i) :
    (b = true ∧ i < l.length ∧ findR l c t = some (at_ l i) ∧ (at_ l i).1 = c ∧ (at_ l i).2.2.2.1 = t) ∨ (b = false ∧ findR l c t = none) := by
  have h1 := hc.find h
  cases b with
  | true =>
    rw [← hb, if_pos rfl] at h1
    have h2 := of_decide_eq_true hb.symm
    have h3 := kR_eq.1 h2.2
    exact .inl ⟨rfl, h2.1, h1, h3.1, h3.2⟩
  | false =>
    rw [← hb] at h1
    exact .inr ⟨rfl, h1⟩

/-- Where a find has ended. -/
theorem findR_case (v : Value) (l : List Re) (c : Int) (t : Bool) (w : World) (hl : l.length ≤ 1000) (hr : Ris kR l) (hR : Rd w 5 v l.length (l.flatMap reC)) :
    Calls Try.prog 71 #[v, .int .i64 c, .bool t] w fun e w' => (∃ i : Nat, e = .returned (.tuple #[.int .i64 i, .bool true]) ∧ i < l.length ∧ findR l c t = some (at_ l i) ∧ (at_ l i).1 = c ∧ (at_ l i).2.2.2.1 = t ∧ Cut kR l (2 * c + flI t) i ∧ isAt kR l (2 * c + flI t) i = true ∧ Below w.heap.size w w') ∨ (∃ i : Nat, i ≤ l.length ∧ e = .returned (.tuple #[.int .i64 i, .bool false]) ∧ findR l c t = none ∧ Below w.heap.size w w') := by
  refine (findR_any v l c t w hl hR).mono ?_
  rintro e w1 ⟨i, b, hi, rfl, hb1, hris⟩
  obtain ⟨hcut, hat⟩ := hris hr
  rcases find_case hr hcut hat with ⟨rfl, h1, h2, h3, h4⟩ | ⟨rfl, h2⟩
  · exact .inl ⟨i, rfl, h1, h2, h3, h4, hcut, hat.symm, hb1⟩
  · exact .inr ⟨i, hi, rfl, h2, hb1⟩

theorem restart_any (v : Value) (l : List Re) (w : World) (hl : l.length ≤ 1000) (hR : Rd w 5 v l.length (l.flatMap reC)) :
    Calls Try.prog 35 #[v] w (FreshR (rstR l) w) := by
  have HR := Lib.hid hR
  clear hR
  go_enter Try.func35, Try.ntmps35
  go_wp2_with fail
  refine (without_rst v l w hl HR.out).mono ?_
  rintro e w1 ⟨v1, rfl, ho1, hb1⟩
  have HO1 := Lib.hid ho1
  have HB1 := Lib.hid hb1
  clear ho1 hb1
  go_wp2_with fail
  go_ret
  exact ⟨_, rfl, HO1.out, HB1.out⟩

theorem abort_any (v : Value) (l : List Re) (c : Int) (w : World) (hl : l.length ≤ 1000) (hR : Rd w 5 v l.length (l.flatMap reC)) :
    Calls Try.prog 36 #[v, .int .i64 c] w (FreshR (abtR l c) w) := by
  have hmf : ∀ (fn : Fn) (first cap : Array Value) (w : World), (Instr.makeFunc fn first cap).run Try.prog w = .ok (.func fn first cap) w := fun _ _ _ _ => rfl
  have HR := Lib.hid hR
  clear hR
  go_enter Try.func36, Try.ntmps36
  go_wp2_with fail
  have hal := below_one w (.cells #[.int .i64 c] 3)
  refine (without_abo v l w.heap.size c (w.alloc (.cells #[.int .i64 c] 3)) hl (HR.out.alloc _) (Bx.new w 3 [.int .i64 c])).mono ?_
  rintro e w1 ⟨v1, rfl, ho1, hb1⟩
  have HO1 := Lib.hid (ho1.mono (base' := w.heap.size) (by simp))
  have HB1 := Lib.hid (below_then hal hb1)
  clear ho1 hb1 hal
  go_wp2_with fail
  go_ret
  exact ⟨_, rfl, HO1.out, HB1.out⟩

set_option maxHeartbeats 1000000 in
theorem remove_any (v : Value) (l : List Re) (c : Int) (w : World) (hl : l.length ≤ 1000) (hR : Rd w 5 v l.length (l.flatMap reC)) :
    Calls Try.prog 37 #[v, .int .i64 c] w (FreshT (rmvR l c) w) := by
  have hmf : ∀ (fn : Fn) (first cap : Array Value) (w : World), (Instr.makeFunc fn first cap).run Try.prog w = .ok (.func fn first cap) w := fun _ _ _ _ => rfl
  obtain ⟨A, cap, hv, _, _⟩ := hR.shape
  subst hv
  have HR := Lib.hid hR
  have hrm : rmvR l c = if (findR (fairR l) c false).isSome then (0, (fairR l).filter (fun z => !(z.1 == c && !z.2.2.2.1))) else (5, []) := rfl
  have HRM := Lib.hid hrm
  clear hR hrm
  go_enter Try.func37, Try.ntmps37
  go_wp2_with fail
  have hal := below_one w (.cells #[.int .i64 c] 3)
  have hbx := Bx.new w 3 [.int .i64 c]
  change Bx (w.alloc (.cells #[.int .i64 c] 3)) _ _ _ at hbx
  have hr0 := HR.out.alloc (.cells #[.int .i64 c] 3)
  generalize (w.alloc (.cells #[.int .i64 c] 3)) = w0 at *
  have HBX := Lib.hid hbx
  have HAL := Lib.hid hal
  have HR0 := Lib.hid hr0
  obtain ⟨bb, hbb⟩ : ∃ b, w.heap.size = b := ⟨_, rfl⟩
  rw [hbb] at hbx HBX ⊢
  have HBB := Lib.hid hbb
  have hq := hbx.cell 0
  simp only [List.getElem?_cons_zero] at hq
  clear hbx hal hr0 hbb
  have QF := fun (w' : World) (hb : Below w0.heap.size w0 w') => (HBX.out.below' hb).cell 0
  simp only [List.getElem?_cons_zero] at QF
  have B00 : Below w0.heap.size w0 w0.drew := (Below.refl w0.heap.size w0).drew
  have hfl := fairR_len l
  go_region_held3 (fun w' => w'.cell? ⟨bb, 0, none⟩ = some (.int .i64 c))
    (first | exact QF _ B02 | exact QF _ B01 | exact QF _ B00 | go_keep)
    (first
      | (go_at_call 69; refine (fairR_any _ l _ hl (HR0.out.below B00 (Nat.le_refl _))).mono ?_; rintro e w1 ⟨v1, rfl, ho1, hb1⟩; have B01 : Below w0.heap.size w0 w1 := B00.trans hb1; have HO1 := Lib.hid ho1.rd; obtain ⟨A1, cap1, e1⟩ := ho1.slice_; subst e1; clear ho1 hb1)
      | (go_at_call 71; refine (findR_any _ (fairR l) c false _ (by omega) HO1.out).mono ?_; rintro e w2 ⟨i, b, hi, rfl, hb2, hris⟩; have B02 : Below w0.heap.size w0 w2 := below_then B01 hb2; have HRI := Lib.hid (hris (fairR_ris l)); clear hris hb2))
  have HB2 := Lib.hid (below_then HAL.out B02)
  have HX2 := Lib.hid (HBX.out.below' B02)
  clear QF B00 B01 B02 hq
  rcases find_case (fairR_ris l) HRI.out.1 HRI.out.2 with ⟨rfl, h1, h2, h3, h4⟩ | ⟨rfl, h2⟩
  · have H2 := Lib.hid h2
    clear h1 h2 h3 h4 HRI
    go_wp2_with fail
    refine (without_rem _ l bb c w2 hl (HR.out.below HB2.out (Nat.le_refl _)) HX2.out).mono ?_
    rintro e w3 ⟨v3, rfl, ho3, hb3⟩
    have HO3 := Lib.hid (ho3.mono (base' := w.heap.size) HB2.out.size)
    have HB3 := Lib.hid (below_then HB2.out hb3)
    clear ho3 hb3
    go_wp2_with fail
    refine bodyPost_ret (v := .tuple #[v3, .int .i64 0]) (by simp [results, Try.results37, go_sem]) rfl ?_
    rw [HRM.out, H2.out]
    exact ⟨_, rfl, HO3.out, HB3.out⟩
  · have H2 := Lib.hid h2
    clear h2 HRI
    go_wp2_with fail
    refine bodyPost_ret (v := .tuple #[.slice none 0 0, .int .i64 5]) (by simp [results, Try.results37, go_sem]) rfl ?_
    rw [HRM.out, H2.out]
    exact ⟨_, rfl, Own.nil_ _ _ _ _, HB2.out⟩

end Go.Proofs.Ytncgpojjibojlaa

/- suturelaw11.awake: the chapter's examples hold. -/
import Derived.Test.YtncgpojjibojlaaSrv4q
import Derived.Test.YtncgpojjibojlaaSrv5q
import Derived.Test.YtncgpojjibojlaaGhq
import Derived.Test.YtncgpojjibojlaaAwake10q
import Derived.Test.YtncgpojjibojlaaGbq
import Derived.Laws.BytesArg
import Derived.Lib.SlBytesConst
namespace Go.Proofs.Ytncgpojjibojlaa
open Go Go.RowKit Go.Sort

/-- Bytes as a string. -/
def strB (l : List Nat) : ByteArray := strOfNums (l.map Int.ofNat)
set_option maxRecDepth 1000000 in
theorem conv_str {w : World} {v : Value} {l : List Nat} (h : Rd w 1 v l.length (l.flatMap byC)) : (convert 34 9 v).run Try.prog w = .ok (.string (strB l)) w := by
  obtain ⟨A, cap, rfl, _, _⟩ := h.shape
  cases A with
  | none =>
    have h0 : l = [] := by
      rcases Nat.eq_zero_or_pos l.length with h0 | h0
      · exact List.eq_nil_of_length_eq_zero h0
      · obtain ⟨b, off, hA, _⟩ := h.addr h0
        cases hA
    subst h0
    exact run_convert_bytes_nil w 34 5 Try.underlying34 Try.underlying5 _ _ _ Try.underlying9
  | some a =>
    rcases Nat.eq_zero_or_pos l.length with h0 | h0
    · have hl0 := List.eq_nil_of_length_eq_zero h0
      subst hl0
      have hl : (loadCells a 0).run Try.prog w = .ok (([] : List Int).map (Value.int .u8)).toArray w := run_loadCells_list (P := Try.prog) w a [] (fun j u hj => by simp at hj)
      show (convert 34 9 (.slice (some a) 0 cap)).run Try.prog w = _
      rw [run_convert_bytes_string w 34 9 5 _ 0 cap Try.underlying34 Try.underlying5 Try.underlying9, run_bytesToString w a 0 cap [] hl]
      rfl
    · obtain ⟨b, off, hA, _⟩ := h.addr h0
      injection hA with hA
      subst hA
      exact run_convert_bytes_arg w 34 5 Try.underlying34 Try.underlying5 b off l.length cap (l.map Int.ofNat) (by simp) (fun i hi => by
        have := rd_byte h i hi
        rw [this]
        simp [List.getD, at_, hi]) _ Try.underlying9

theorem rd_row_any {w : World} {b size n : Nat} {cs : List Value} {t : TypeId} {fr : Nat × Nat} (hb : w.heap[b]? = some (.cells cs.toArray t fr)) (hs : cs.length = n * size) (hn : n ≤ 1000) : Rd w size (.slice (some ⟨b, 0, none⟩) n n) n cs :=
  ⟨hs, _, _, rfl, Nat.le_refl _, by unfold maxLen; omega, fun _ => ⟨b, 0, rfl, (Array.getElem?_eq_some_iff.1 hb).1, fun j u hj => by
    rw [Nat.zero_add, cell_of_row w b j _ _ _ hb]
    simpa using hj⟩⟩
theorem strB_ab : strB [97, 98] = ⟨#[97, 98]⟩ := by rfl
def wk1 : Sv := (bgnS (newS 2) 1 1 ((sumC [97, 98] : Nat) : Int) [97, 98]).2
def wk2 : Sv := (cmtS wk1 1 1).2
def wk3 : Sv := (splS wk2 1 0).2
theorem wk1_ok : (bgnS (newS 2) 1 1 ((sumC [97, 98] : Nat) : Int) [97, 98]).1 = 0 := by decide
theorem wk2_ok : (cmtS wk1 1 1).1 = 0 := by decide
theorem wk2_read : readS wk2 1 = ([97, 98], 1, 0) := by decide
theorem wk3_read : readS wk3 1 = ([], 0, 4) := by decide
theorem okB_ab : okB [97, 98] := fun b hb => by simp at hb; omega
theorem ok_wk1 : OkS wk1 := (OkS.new 2).bgn okB_ab
theorem ok_wk2 : OkS wk2 := ok_wk1.cmt 1 1
theorem ok_wk3 : OkS wk3 := ok_wk2.spl 1 0
theorem wf1 : wfI 1 := wf_i64 (by omega) (by omega)

set_option maxHeartbeats 2000000 in
set_option maxRecDepth 1000000 in
theorem awake11 (w : World) : Calls Try.prog 15 #[] w fun e w' => e = .returned (.bool true) ∧ Below w.heap.size w w' := by
  have kc := fun (w : World) (C : Array Value) (n c : Nat) => Lib.run_convert_bytes_const (P := Try.prog) w 34 5 C n c Try.underlying34 Try.underlying5
  go_enter Try.func15, Try.ntmps15
  go_wp2_with fail
  refine (snew_any 2 w).mono ?_
  rintro e w1 ⟨p, G, rfl, hs1, hg1, hb1⟩
  have HB1 := Lib.hid hb1
  have HG1 := Lib.hid hg1
  have hal := below_one w1 (.cells #[.int .u8 97, .int .u8 98] 5 (2, 3))
  have hbx := heap_alloc_new w1 (.cells #[.int .u8 97, .int .u8 98] 5 (2, 3))
  have HS2 : Hid (SrvAt (w1.alloc (.cells #[.int .u8 97, .int .u8 98] 5 (2, 3))) G p 0 (newS 2)) := by
    obtain ⟨_, _, _, h⟩ := hs1
    exact ⟨_, _, _, h.below' hal⟩
  have HB2 := Lib.hid (below_then hb1 hal)
  go_wp2_with fail
  try simp only [List.size_toArray, List.length_cons, List.length_nil, Nat.zero_add, Nat.reduceAdd]
  obtain ⟨D, hD⟩ : ∃ D, w1.heap.size = D := ⟨_, rfl⟩
  have HDW : Hid (∀ i, G i → i < D) := by
    obtain ⟨_, _, _, h⟩ := hs1
    exact fun i hi => by have := h.lt i hi; omega
  generalize (w1.alloc (.cells #[.int .u8 97, .int .u8 98] 5 (2, 3))) = w2 at *
  rw [hD] at hbx
  try rw [hD]
  have HR2 : Hid (Rd w2 1 (.slice (some ⟨D, 0, none⟩) 2 2) ([97, 98] : List Nat).length (([97, 98] : List Nat).flatMap byC)) := rd_row_any (cs := ([97, 98] : List Nat).flatMap byC) hbx rfl (by omega)
  have HOF : Hid (OffG G (.slice (some ⟨D, 0, none⟩) 2 2)) := fun b off n cap h _ hG => by
    injection h with h1 _ _
    injection h1 with h1
    injection h1 with h1 _
    have := HDW.out b hG
    omega
  clear hs1 hg1 hb1 hal hbx hD HB1
  refine (sum_any _ [97, 98] w2 okB_ab HR2.out).mono ?_
  rintro e w3 ⟨rfl, hb3⟩
  have HB3 := Lib.hid (below_then HB2.out hb3)
  have HS3 : Hid (SrvAt w3 G p 0 (newS 2)) := by
    obtain ⟨_, _, _, h⟩ := HS2.out
    exact ⟨_, _, _, h.below' hb3⟩
  have HR3 := Lib.hid (HR2.out.below hb3 (Nat.le_refl _))
  obtain ⟨su, hsu⟩ : ∃ x, ((sumC [97, 98] : Nat) : Int) = x := ⟨_, rfl⟩
  have HSU := Lib.hid hsu
  rw [hsu]
  clear hb3 hsu
  go_wp2_with fail
  refine (sbegin_any p 0 1 1 su _ [97, 98] (newS 2) G w3 wf1 (by simp [newS]) (by omega) okB_ab HR3.out HOF.out HS3.out).mono ?_
  rintro e w4 ⟨G4, rfl, hs4, hst4⟩
  rw [← HSU.out] at hs4 ⊢
  rw [wk1_ok]
  have HS4 : Hid (SrvAt w4 G4 p 1 wk1) := hs4
  have hbase := hst4.base HB3.out.size HG1.out
  have HB4 := Lib.hid (HB3.out.trans hbase.1)
  have HG4 := Lib.hid hbase.2
  clear hs4 hst4 hbase
  go_wp2_with fail
  refine (scommit_any p 1 1 1 wk1 G4 w4 wf1 (by have := ok_wk1.l16; omega) (by omega) HS4.out).mono ?_
  rintro e w5 ⟨G5, rfl, hs5, hst5⟩
  rw [wk2_ok]
  have HS5 : Hid (SrvAt w5 G5 p 2 wk2) := hs5
  have hbase := hst5.base HB4.out.size HG4.out
  have HB5 := Lib.hid (HB4.out.trans hbase.1)
  have HG5 := Lib.hid hbase.2
  clear hs5 hst5 hbase
  go_wp2_with fail
  refine (sread_any p 2 1 wk2 G5 w5 wf1 ok_wk2 HS5.out).mono ?_
  rintro e w6 ⟨v6, rfl, ho6, hb6⟩
  rw [wk2_read] at ho6 ⊢
  obtain ⟨A6, cap6, e6⟩ := ho6.slice_
  subst e6
  have HO6 := Lib.hid ho6
  have HB6 := Lib.hid (below_then HB5.out hb6)
  have HS6 : Hid (SrvAt w6 G5 p 2 wk2) := by
    obtain ⟨_, _, _, h⟩ := HS5.out
    exact ⟨_, _, _, h.below' hb6⟩
  have HN6 : Hid (∀ g, blk (.slice A6 ([97, 98] : List Nat).length cap6) = some g → ¬ G5 g) := fun g hg hG => by
    obtain ⟨_, _, _, h⟩ := HS5.out
    have := h.lt g hG
    have := (ho6.blk_lt hg).1
    omega
  clear ho6 hb6
  dsimp only
  go_wp2_with fail
  refine (sspoil_any p 2 1 0 wk2 G5 w6 wf1 ⟨by have := (ok_wk2.bytes 1 false).1; omega, (ok_wk2.bytes 1 false).2⟩ HS6.out).mono ?_
  rintro e w7 ⟨G7, rfl, hs7, hst7⟩
  have HS7 : Hid (SrvAt w7 G7 p 2 wk3) := hs7
  have hbase := hst7.base HB6.out.size HG5.out
  have HB7 := Lib.hid (HB6.out.trans hbase.1)
  have HO7 := Lib.hid (hst7.own HO6.out HN6.out).1
  obtain ⟨sr, hsr⟩ : ∃ x, (splS wk2 1 0).1 = x := ⟨_, rfl⟩
  rw [hsr]
  clear hs7 hst7 hbase hsr
  go_wp2_with fail
  refine (sread_any p 2 1 wk3 G7 w7 wf1 ok_wk3 HS7.out).mono ?_
  rintro e w8 ⟨v8, rfl, ho8, hb8⟩
  rw [wk3_read] at ho8 ⊢
  obtain ⟨A8, cap8, e8⟩ := ho8.slice_
  subst e8
  have HB8 := Lib.hid (below_then HB7.out hb8)
  have hcs := conv_str (HO7.out.below hb8 (Nat.le_refl _)).rd
  rw [strB_ab] at hcs
  simp only [List.length_cons, List.length_nil, Nat.zero_add, Nat.reduceAdd] at hcs ⊢
  clear ho8 hb8
  go_wp2_with fail
  go_ret
  exact ⟨rfl, HB8.out⟩

end Go.Proofs.Ytncgpojjibojlaa

/- A server with one chunk, as plain data: begun, committed, read, spoilt, scrubbed. No program in sight. -/
namespace Go.Proofs.Ytncgpojjibojlaa
open Go

def nilf : Int → Bool → List Nat := fun _ _ => []
theorem putR_nil (x : Re) : putR [] x = [x] := rfl
theorem putR_hit {x y : Re} (h : kR x = kR y) : putR [x] y = [y] := by
  unfold putR
  simp [h]
theorem putR_after {x y : Re} (h : kR x < kR y) : putR [x] y = [x, y] := by
  unfold putR
  simp [h, show ¬ kR y < kR x by omega]
theorem dropR_one {x : Re} {k : Int} (h : kR x = k) : dropR [x] k = [] := by
  unfold dropR
  simp [h]
theorem dropR_snd {x y : Re} {k : Int} (h : kR y = k) (hx : kR x < k) : dropR [x, y] k = [x] := by
  unfold dropR
  simp [h, show kR x ≠ k by omega]
theorem upF_nil (c : Int) (t : Bool) : upF nilf c t [] = nilf := by
  funext d u
  unfold upF nilf
  split <;> rfl
theorem upF_twice {α : Type} (f : Int → Bool → α) (c : Int) (t : Bool) (a b : α) : upF (upF f c t a) c t b = upF f c t b := by
  funext d u
  unfold upF
  by_cases h : d = c ∧ u = t
  · rw [if_pos h, if_pos h]
  · rw [if_neg h, if_neg h, if_neg h]
theorem upF_swap {α : Type} (f : Int → Bool → α) (c : Int) (a b : α) : upF (upF f c true a) c false b = upF (upF f c false b) c true a := by
  funext d u
  unfold upF
  cases u <;> by_cases e : d = c <;> simp [e]
theorem upF_move (f : Int → Bool → List Nat) (c : Int) (a b : List Nat) : upF (upF (upF f c true a) c false b) c true [] = upF (upF f c false b) c true [] := by
  rw [upF_swap, upF_twice]

/-- One that is held. -/
def one (r c v u : Int) (d : List Nat) : Sv := ⟨r, [(c, v, u, false, false)], upF nilf c false d⟩
/-- One that is begun. -/
def oneT (r c v u : Int) (d : List Nat) : Sv := ⟨r, [(c, v, u, true, false)], upF nilf c true d⟩
theorem may_one {c v u : Int} {t : Bool} (h : namedB c v = true) : mayR [(c, v, u, t, false)] = true :=
  (mayR_iff _).2 ⟨fun x hx => by rw [List.mem_singleton.1 hx]; simp [okR, h], List.pairwise_singleton _ _⟩
theorem may_two {c v w u u' : Int} (h : namedB c v = true) (h' : namedB c w = true) (hv : v < w) : mayR [(c, v, u, false, false), (c, w, u', true, false)] = true := by
  refine (mayR_iff _).2 ⟨fun x hx => ?_, ?_⟩
  · rcases List.mem_cons.1 hx with rfl | hx
    · simp [okR, h]
    · rw [List.mem_singleton.1 hx]; simp [okR, h']
  · refine List.pairwise_cons.2 ⟨fun x hx => ?_, List.pairwise_singleton _ _⟩
    rw [List.mem_singleton.1 hx]
    exact ⟨by rw [kR_held, kR_temp]; omega, fun _ => hv⟩
theorem findR_one (c v u : Int) (t : Bool) : findR [(c, v, u, t, false)] c t = some (c, v, u, t, false) := by
  unfold findR
  rw [List.find?_cons_of_pos]
  simpa using kR_eq.2 ⟨rfl, rfl⟩
theorem findR_one_other (c v u : Int) (t : Bool) : findR [(c, v, u, t, false)] c (!t) = none := by
  refine findR_none.2 fun x hx h => ?_
  rw [List.mem_singleton.1 hx] at h
  have := h.2
  cases t <;> simp at this

theorem new_bgn {r c v u : Int} {d : List Nat} : ((bgnS (newS r) c v u d).1 = 0 ∧ bgnS (newS r) c v u d = (0, oneT (newS r).room c v u d) ∧ d.length ≤ 64 ∧ ((sumC d : Nat) : Int) = u ∧ namedB c v = true) ∨ ((bgnS (newS r) c v u d).1 ≠ 0 ∧ (bgnS (newS r) c v u d).2 = newS r) := by
  by_cases h : (bgnS (newS r) c v u d).1 = 0
  · refine .inl ⟨h, ?_⟩
    by_cases h1 : 64 < d.length
    · unfold bgnS at h; rw [if_pos h1] at h; cases h
    by_cases h2 : ((sumC d : Nat) : Int) ≠ u
    · unfold bgnS at h; rw [if_neg h1, if_pos h2] at h; cases h
    have h2' : ((sumC d : Nat) : Int) = u := by simpa using h2
    obtain ⟨⟨e, m⟩, hm⟩ : ∃ p, bgnR (newS r).l (c, v, u, false, false) (newS r).room = p := ⟨_, rfl⟩
    by_cases h3 : e = 0
    · subst h3
      obtain ⟨rfl, hn, _, _, _⟩ := bgnR_ok hm
      refine ⟨?_, by omega, h2', hn⟩
      unfold bgnS
      rw [if_neg h1, if_neg h2, hm]
      simp only [if_true]
      rfl
    · unfold bgnS at h
      rw [if_neg h1, if_neg h2, hm, if_neg h3] at h
      exact absurd h h3
  · refine .inr ⟨h, ?_⟩
    unfold bgnS at h ⊢
    split
    · rfl
    split
    · rfl
    split
    · rename_i h1 h2 h3
      rw [if_neg h1, if_neg h2, if_pos h3] at h
      exact absurd rfl h
    · rfl
theorem new_bgn_ok {r c v u : Int} {d : List Nat} (hd : d.length ≤ 64) (hs : ((sumC d : Nat) : Int) = u) (hn : namedB c v = true) (hr : 1 ≤ (newS r).room) : bgnS (newS r) c v u d = (0, oneT (newS r).room c v u d) := by
  have hb : bgnR (newS r).l (c, v, u, false, false) (newS r).room = (0, [(c, v, u, true, false)]) := by
    have hf : fairR (newS r).l = [] := rfl
    unfold bgnR
    rw [hf]
    simp only
    rw [if_neg (by rw [hn]; simp)]
    rw [if_neg (by simp [findR]), if_neg (by simp [findR]), if_neg (by simp [findR]; omega)]
    rfl
  unfold bgnS
  rw [if_neg (by omega), if_neg (fun h => h hs), hb]
  rfl
theorem oneT_cmt {r c v u : Int} {d : List Nat} (hn : namedB c v = true) : cmtS (oneT r c v u d) c v = (0, one r c v u d) := by
  have hf : fairR (oneT r c v u d).l = [(c, v, u, true, false)] := fairR_of (may_one hn)
  have hc : cmtR (oneT r c v u d).l c v = (0, [(c, v, u, false, false)]) := by
    unfold cmtR
    rw [hf, findR_one]
    simp only [if_true]
    rw [dropR_one (by rw [kR_temp])]
    rfl
  unfold cmtS
  rw [hc]
  simp only [if_true]
  unfold one oneT
  simp only
  rw [upF_same, upF_move]
  have : upF (upF nilf c false d) c true [] = upF nilf c false d := by
    rw [← upF_swap, upF_nil]
  rw [this]
theorem new_cmt {r c v : Int} : cmtS (newS r) c v = (5, newS r) := by
  have hc : cmtR (newS r).l c v = (5, []) := rfl
  unfold cmtS
  rw [hc]
  rfl
theorem ok_one {r c v u : Int} {d : List Nat} (hn : namedB c v = true) (h0 : 1 ≤ r) (h1 : r ≤ 16) (hd : d.length ≤ 64) (hb : okB d) : OkS (one r c v u d) := by
  refine ⟨may_one hn, by simp [one]; omega, by simp [one]; omega, h1, fun c' t' => ?_, fun c' t' h => ?_⟩
  · exact upF_bytes (f := nilf) (fun _ _ => ⟨by simp [nilf], okB_nil⟩) c false ⟨hd, hb⟩ c' t'
  · by_cases e : c' = c ∧ t' = false
    · obtain ⟨rfl, rfl⟩ := e
      show (findR [(c', v, u, false, false)] c' false).isSome = true
      rw [findR_one]
      rfl
    · exact absurd (upF_other nilf d e) h
theorem ok_oneT {r c v u : Int} {d : List Nat} (hn : namedB c v = true) (h0 : 1 ≤ r) (h1 : r ≤ 16) (hd : d.length ≤ 64) (hb : okB d) : OkS (oneT r c v u d) := by
  refine ⟨may_one hn, by simp [oneT]; omega, by simp [oneT]; omega, h1, fun c' t' => ?_, fun c' t' h => ?_⟩
  · exact upF_bytes (f := nilf) (fun _ _ => ⟨by simp [nilf], okB_nil⟩) c true ⟨hd, hb⟩ c' t'
  · by_cases e : c' = c ∧ t' = true
    · obtain ⟨rfl, rfl⟩ := e
      show (findR [(c', v, u, true, false)] c' true).isSome = true
      rw [findR_one]
      rfl
    · exact absurd (upF_other nilf d e) h
theorem one_read {r c v u : Int} {d : List Nat} (hok : OkS (one r c v u d)) : readS (one r c v u d) c = if ((sumC d : Nat) : Int) = u then (d, v, 0) else ([], 0, 4) := by
  rw [readS_eq hok]
  show (match findR [(c, v, u, false, false)] c false with | none => _ | some x => _) = _
  rw [findR_one]
  simp only
  have hf : (one r c v u d).f c false = d := upF_same _ _ _ _
  have hsp : spoiltS (one r c v u d) (c, v, u, false, false) = !decide (((sumC d : Nat) : Int) = u) := by
    unfold spoiltS
    rw [hf]
  rw [hsp, hf]
  by_cases e : ((sumC d : Nat) : Int) = u <;> simp [e]
theorem oneT_reb {r0 c v u : Int} {d : List Nat} (hok : OkS (oneT (newS r0).room c v u d)) : rebS (oneT (newS r0).room c v u d) = newS r0 := by
  rw [rebS_eq hok]
  have hl : rstR (oneT (newS r0).room c v u d).l = [] := by
    unfold rstR
    rw [hok.fair]
    rfl
  rw [hl]
  show Sv.mk _ _ _ = Sv.mk _ _ _
  congr 1
  funext c' t'
  cases t' with
  | true => rfl
  | false => exact upF_other nilf d (by simp)
theorem wipe_read (s : Sv) (c : Int) : readS (wipeS s) c = ([], 0, 5) := rfl
/-- A newer one behind one that is held. -/
def two (r c v u w u' : Int) (a b : List Nat) : Sv := ⟨r, [(c, v, u, false, false), (c, w, u', true, false)], upF (upF nilf c false a) c true b⟩
theorem one_bgn {r c v u w u' : Int} {a b : List Nat} (hn : namedB c v = true) (hn' : namedB c w = true) (hv : v < w) (hr : 2 ≤ r) (hb : b.length ≤ 64) (hs : ((sumC b : Nat) : Int) = u') : bgnS (one r c v u a) c w u' b = (0, two r c v u w u' a b) := by
  have hf : fairR (one r c v u a).l = [(c, v, u, false, false)] := fairR_of (may_one hn)
  have hb2 : bgnR (one r c v u a).l (c, w, u', false, false) r = (0, [(c, v, u, false, false), (c, w, u', true, false)]) := by
    unfold bgnR
    rw [hf]
    simp only
    have e1 : findR [(c, v, u, false, false)] c true = none := findR_one_other c v u false
    rw [findR_one, e1]
    rw [if_neg (by rw [hn']; simp), if_neg (by simp; omega), if_neg (by simp), if_neg (by simp; omega)]
    rw [putR_after (by rw [kR_held, kR_temp]; omega)]
  unfold bgnS
  rw [if_neg (by omega), if_neg (fun h => h hs)]
  show (if (bgnR (one r c v u a).l (c, w, u', false, false) r).1 = 0 then _ else _) = _
  rw [if_pos (by rw [hb2])]
  show (_, Sv.mk _ (bgnR (one r c v u a).l (c, w, u', false, false) r).2 _) = _
  rw [hb2]
  rfl
theorem one_old {r c v u w u' : Int} {a b : List Nat} (hn : namedB c v = true) (hn' : namedB c w = true) (hv : v < w) (ha : a.length ≤ 64) (hs : ((sumC a : Nat) : Int) = u) : bgnS (one r c w u' b) c v u a = (9, one r c w u' b) := by
  have hf : fairR (one r c w u' b).l = [(c, w, u', false, false)] := fairR_of (may_one hn')
  have hb2 : bgnR (one r c w u' b).l (c, v, u, false, false) r = (9, []) := by
    unfold bgnR
    rw [hf]
    simp only
    rw [findR_one]
    rw [if_neg (by rw [hn]; simp), if_pos (by simp; omega)]
  unfold bgnS
  rw [if_neg (by omega), if_neg (fun h => h hs)]
  show (if (bgnR (one r c w u' b).l (c, v, u, false, false) r).1 = 0 then _ else ((bgnR (one r c w u' b).l (c, v, u, false, false) r).1, _)) = _
  rw [hb2]
  rfl
theorem findR_two {c v u w u' : Int} (t : Bool) : findR [(c, v, u, false, false), (c, w, u', true, false)] c t = some (if t then (c, w, u', true, false) else (c, v, u, false, false)) := by
  unfold findR
  cases t with
  | true =>
    rw [List.find?_cons_of_neg (by simp [kR, flI]; omega), List.find?_cons_of_pos (by simp [kR, flI])]
    rfl
  | false =>
    rw [List.find?_cons_of_pos (by simp [kR, flI])]
    rfl
theorem two_read {r c v u w u' : Int} {a b : List Nat} (hok : OkS (two r c v u w u' a b)) (hs : ((sumC a : Nat) : Int) = u) : readS (two r c v u w u' a b) c = (a, v, 0) := by
  rw [readS_eq hok]
  show (match findR [(c, v, u, false, false), (c, w, u', true, false)] c false with | none => _ | some x => _) = _
  rw [findR_two]
  simp only [Bool.false_eq_true, if_false]
  have hf : (two r c v u w u' a b).f c false = a := by
    show upF (upF nilf c false a) c true b c false = a
    rw [upF_other _ _ (by simp), upF_same]
  have hsp : spoiltS (two r c v u w u' a b) (c, v, u, false, false) = false := by
    unfold spoiltS
    rw [hf]
    simp [hs]
  rw [hsp, hf]
  rfl
theorem two_cmt {r c v u w u' : Int} {a b : List Nat} (hn : namedB c v = true) (hn' : namedB c w = true) (hv : v < w) : cmtS (two r c v u w u' a b) c w = (0, one r c w u' b) := by
  have hf : fairR (two r c v u w u' a b).l = [(c, v, u, false, false), (c, w, u', true, false)] := fairR_of (may_two hn hn' hv)
  have hc : cmtR (two r c v u w u' a b).l c w = (0, [(c, w, u', false, false)]) := by
    unfold cmtR
    rw [hf, findR_two]
    simp only [if_true]
    rw [dropR_snd (by rw [kR_temp]) (by rw [kR_held]; omega), putR_hit (by rw [kR_held, kR_held])]
  unfold cmtS
  rw [hc]
  simp only [if_true]
  unfold one two
  simp only
  have e : upF (upF (upF (upF nilf c false a) c true b) c false (upF (upF nilf c false a) c true b c true)) c true [] = upF nilf c false b := by
    rw [upF_same, upF_swap, upF_twice, upF_twice, ← upF_swap, upF_nil]
  rw [e]

/-! ### a bit turned -/
theorem turnB_turn {l : List Nat} {k : Nat} (hk : k < 8 * l.length) : turnB (turnB l k) k = l := by
  have hi : k / 8 < l.length := by omega
  unfold turnB
  have e : at_ (l.set (k / 8) (at_ l (k / 8) ^^^ 2 ^ (k % 8))) (k / 8) = at_ l (k / 8) ^^^ 2 ^ (k % 8) := by
    rw [at_eq (by simpa using hi)]
    simp
  rw [e, List.set_set, Nat.xor_assoc, Nat.xor_self, Nat.xor_zero, at_eq hi]
  simp
theorem turnB_sum {l : List Nat} (hl : okB l) {k : Nat} (hk : k < 8 * l.length) : sumC (turnB l k) ≠ sumC l := by
  have hi : k / 8 < l.length := by omega
  unfold turnB
  rw [List.set_eq_take_append_cons_drop, if_pos hi]
  have e : l = l.take (k / 8) ++ at_ l (k / 8) :: l.drop (k / 8 + 1) := by
    rw [← drop_at hi]
    exact (List.take_append_drop _ _).symm
  have hb := hl _ (at_mem hi)
  have hp : 2 ^ (k % 8) < 2 ^ 8 := Nat.pow_lt_pow_right (by omega) (by omega)
  conv => rhs; rw [e]
  refine sumC_turn (fun z hz => hl z (List.mem_of_mem_take hz)) (fun z hz => hl z (List.mem_of_mem_drop hz)) (Nat.xor_lt_two_pow (n := 8) hb hp) hb (fun h => ?_)
  have h1 := congrArg (at_ l (k / 8) ^^^ ·) h
  simp only [← Nat.xor_assoc, Nat.xor_self, Nat.zero_xor] at h1
  have : 0 < 2 ^ (k % 8) := Nat.two_pow_pos _
  omega
theorem one_spl {r c v u bit : Int} {d : List Nat} (hd : d ≠ []) : splS (one r c v u d) c bit = (0, one r c v u (turnB d (bit.toNat % (8 * d.length)))) := by
  have hf : (one r c v u d).f c false = d := upF_same _ _ _ _
  unfold splS
  rw [hf, if_neg hd]
  show (_, Sv.mk _ _ (upF (upF nilf c false d) c false _)) = _
  rw [upF_twice]
  rfl
theorem one_bad {r c v u : Int} {d : List Nat} (hok : OkS (one r c v u d)) (hs : ((sumC d : Nat) : Int) ≠ u) : badS (one r c v u d) = [c] := by
  have hl : rstR (one r c v u d).l = [(c, v, u, false, false)] := by
    unfold rstR
    rw [hok.fair]
    rfl
  have hf : (one r c v u d).f c false = d := upF_same _ _ _ _
  have hsp : spoiltS (one r c v u d) (c, v, u, false, false) = true := by
    unfold spoiltS
    rw [hf]
    simp [hs]
  unfold badS
  rw [hl]
  simp [hsp]
theorem one_scr {r c v u : Int} {d : List Nat} (hok : OkS (one r c v u d)) (hs : ((sumC d : Nat) : Int) ≠ u) : (scrS (one r c v u d)).l = [] := by
  unfold scrS
  rw [rmvL_eq hok, one_bad hok hs]
  simp only
  show List.filter _ [(c, v, u, false, false)] = []
  simp
theorem read_nil {s : Sv} (h : s.l = []) (c : Int) : readS s c = ([], 0, 5) := by
  unfold readS
  rw [h]
  rfl

end Go.Proofs.Ytncgpojjibojlaa

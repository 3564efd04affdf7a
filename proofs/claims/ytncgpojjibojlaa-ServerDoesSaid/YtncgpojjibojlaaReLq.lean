/- What one op does to replicas, as plain lists: laws. No program in sight. -/
import Derived.Test.YtncgpojjibojlaaReOq
import Derived.Test.YtncgpojjibojlaaReSq
import Derived.Test.YtncgpojjibojlaaAwake10q
namespace Go.Proofs.Ytncgpojjibojlaa
open Go

theorem Ris.filter_key {l : List Re} (h : Ris kR l) {x : Re} (hx : x ∈ l) : l.filter (fun y => decide (kR y = kR x)) = [x] := by
  induction l with
  | nil => cases hx
  | cons y l ih =>
    have h' := List.pairwise_cons.1 h
    rcases List.mem_cons.1 hx with rfl | hx
    · rw [List.filter_cons_of_pos (by simp)]
      congr 1
      rw [List.filter_eq_nil_iff]
      intro z hz
      have := h'.1 z hz
      simp
      omega
    · rw [List.filter_cons_of_neg (by have := h'.1 x hx; simp; omega)]
      exact ih h'.2 hx
theorem filter2_drop {l : List Re} (h : Ris kR l) (k : Int) : l.filter (fun y => decide (kR y < k)) ++ l.filter (fun y => decide (k < kR y)) = dropR l k := by
  unfold dropR
  induction l with
  | nil => rfl
  | cons y l ih =>
    have h' := List.pairwise_cons.1 h
    have ih := ih h'.2
    rcases Int.lt_trichotomy (kR y) k with h1 | h1 | h1
    · rw [List.filter_cons_of_pos (by simpa using h1), List.filter_cons_of_neg (by simp; omega), List.filter_cons_of_pos (by simp; omega), List.cons_append, ih]
    · rw [List.filter_cons_of_neg (by simp; omega), List.filter_cons_of_neg (by simp; omega), List.filter_cons_of_neg (by simp; omega), ih]
    · have e : l.filter (fun y => decide (kR y < k)) = [] := by
        rw [List.filter_eq_nil_iff]
        intro z hz
        have := h'.1 z hz
        simp
        omega
      rw [e, List.nil_append] at ih
      rw [List.filter_cons_of_neg (by simp; omega), List.filter_cons_of_pos (by simpa using h1), List.filter_cons_of_pos (by simp; omega), e, List.nil_append, ih]
theorem dropR_none {l : List Re} {k : Int} (h : ∀ y ∈ l, kR y ≠ k) : dropR l k = l := List.filter_eq_self.2 fun y hy => by simpa using h y hy
theorem dropR_lt {l : List Re} {x : Re} (h : Ris kR l) (hx : x ∈ l) : (dropR l (kR x)).length + 1 = l.length := by
  have h1 := h.filter_key hx
  have hadd : ∀ l : List Re, l.length = (l.filter (fun y => decide (kR y = kR x))).length + (l.filter (fun y => !decide (kR y = kR x))).length := fun l => by
    induction l with
    | nil => rfl
    | cons y l ih =>
      by_cases e : kR y = kR x
      · rw [List.filter_cons_of_pos (by simpa using e), List.filter_cons_of_neg (by simpa using e)]
        simp only [List.length_cons]
        omega
      · rw [List.filter_cons_of_neg (by simpa using e), List.filter_cons_of_pos (by simpa using e)]
        simp only [List.length_cons]
        omega
  have h2 := hadd l
  rw [h1] at h2
  have e : l.filter (fun y => !decide (kR y = kR x)) = dropR l (kR x) := by
    unfold dropR
    refine List.filter_congr fun y _ => ?_
    rw [Bool.eq_iff_iff]
    simp
  rw [e] at h2
  simp at h2
  omega
theorem putR_len_le (l : List Re) (x : Re) : (putR l x).length ≤ l.length + 1 := by
  rw [putR_len]
  have := dropR_len_le l (kR x)
  omega
theorem mayR_put {l : List Re} (h : mayR l = true) {x : Re} (ho : okR x = true) (h1 : ∀ y ∈ l, kR y < kR x → y.1 = x.1 → y.2.1 < x.2.1) (h2 : ∀ y ∈ l, kR x < kR y → x.1 = y.1 → x.2.1 < y.2.1) : mayR (putR l x) = true := by
  obtain ⟨ha, hb⟩ := (mayR_iff l).1 h
  refine (mayR_iff _).2 ⟨fun y hy => ?_, ?_⟩
  · rcases putR_mem.1 hy with rfl | ⟨hy, _⟩
    · exact ho
    · exact ha y hy
  · unfold putR
    refine List.pairwise_append.2 ⟨hb.sublist List.filter_sublist, List.pairwise_cons.2 ⟨fun y hy => ?_, hb.sublist List.filter_sublist⟩, fun y hy z hz => ?_⟩
    · obtain ⟨hy1, hy2⟩ := List.mem_filter.1 hy
      have hy2 : kR x < kR y := by simpa using hy2
      exact ⟨hy2, h2 y hy1 hy2⟩
    · obtain ⟨hy1, hy2⟩ := List.mem_filter.1 hy
      have hy2 : kR y < kR x := by simpa using hy2
      rcases List.mem_cons.1 hz with rfl | hz
      · exact ⟨hy2, h1 y hy1 hy2⟩
      · obtain ⟨hz1, hz2⟩ := List.mem_filter.1 hz
        have hz2 : kR x < kR z := by simpa using hz2
        obtain ⟨i, hi, rfl⟩ := mem_at hy1
        obtain ⟨j, hj, rfl⟩ := mem_at hz1
        have hij : i < j := by
          rcases Nat.lt_trichotomy i j with h | h | h
          · exact h
          · subst h; omega
          · have := (mayR_ris ‹mayR l = true›).lt h hi
            omega
        rw [at_eq hi, at_eq hj]
        exact List.pairwise_iff_getElem.1 hb i j hi hj hij
theorem findR_ext {l m : List Re} (hl : Ris kR l) (hm : Ris kR m) {c : Int} {t : Bool} (h : ∀ x : Re, x.1 = c → x.2.2.2.1 = t → (x ∈ l ↔ x ∈ m)) : findR l c t = findR m c t := by
  cases hf : findR l c t with
  | none =>
    rw [findR_none] at hf
    refine (findR_none.2 fun x hx hh => ?_).symm
    exact hf x ((h x hh.1 hh.2).2 hx) hh
  | some x =>
    rw [findR_some hl] at hf
    exact ((findR_some hm).2 ⟨(h x hf.2.1 hf.2.2).1 hf.1, hf.2⟩).symm
theorem findR_put {l : List Re} (h : Ris kR l) (x : Re) : findR (putR l x) x.1 x.2.2.2.1 = some x := (findR_some (putR_ris h x)).2 ⟨putR_mem.2 (.inl rfl), rfl, rfl⟩
theorem findR_put_other {l : List Re} (h : Ris kR l) (x : Re) {c : Int} {t : Bool} (hne : ¬ (x.1 = c ∧ x.2.2.2.1 = t)) : findR (putR l x) c t = findR l c t := by
  refine (findR_ext h (putR_ris h x) fun y hy1 hy2 => ?_).symm
  rw [putR_mem]
  constructor
  · intro hy
    refine .inr ⟨hy, fun e => ?_⟩
    have e' := kR_eq.2 ⟨hy1, hy2⟩
    rw [e] at e'
    exact hne (kR_eq.1 e')
  · rintro (rfl | hy)
    · exact absurd ⟨hy1, hy2⟩ hne
    · exact hy.1
theorem findR_drop {l : List Re} (h : Ris kR l) (c : Int) (t : Bool) : findR (dropR l (2 * c + flI t)) c t = none := by
  refine findR_none.2 fun x hx hh => ?_
  have := (List.mem_filter.1 hx).2
  rw [kR_eq.2 hh] at this
  simp at this
theorem findR_drop_other {l : List Re} (h : Ris kR l) {c d : Int} {s t : Bool} (hne : ¬ (c = d ∧ s = t)) : findR (dropR l (2 * c + flI s)) d t = findR l d t := by
  refine findR_ext (dropR_ris h _) h fun y hy1 hy2 => ?_
  unfold dropR
  rw [List.mem_filter]
  refine ⟨fun h => h.1, fun hy => ⟨hy, ?_⟩⟩
  simp only [bne_iff_ne, ne_eq]
  rw [kR_eq.2 ⟨hy1, hy2⟩]
  intro e
  have h1 := flI_le s
  have h2 := flI_le t
  have h3 : c = d := by omega
  subst h3
  exact hne ⟨rfl, flI_inj (by omega)⟩
theorem heldR_find (l : List Re) (c : Int) : heldR l c = findR l c false := by
  unfold heldR findR
  congr 1
  funext x
  rw [Bool.eq_iff_iff]
  have := kR_eq (x := x) (c := c) (t := false)
  simp [flI] at this ⊢
  exact this.symm
theorem kR_temp (c v s : Int) (b : Bool) : kR (c, v, s, true, b) = 2 * c + 1 := rfl
theorem kR_held (c v s : Int) (b : Bool) : kR (c, v, s, false, b) = 2 * c := by simp [kR, flI]
theorem okR_named {x : Re} (h : okR x = true) : namedB x.1 x.2.1 = true := by
  unfold okR at h
  rw [Bool.and_eq_true] at h
  exact h.1
theorem okR_temp {x : Re} (h : okR x = true) (ht : x.2.2.2.1 = true) : x.2.2.2.2 = false := by
  unfold okR at h
  rw [ht] at h
  cases e : x.2.2.2.2 with
  | false => rfl
  | true => rw [e] at h; simp at h

/-- What is begun: the replica, and when. -/
theorem bgnR_ok {l : List Re} {x : Re} {room : Int} {m : List Re} (h : bgnR l x room = (0, m)) :
    m = putR (fairR l) (x.1, x.2.1, x.2.2.1, true, false) ∧ namedB x.1 x.2.1 = true ∧ (∀ y, findR (fairR l) x.1 false = some y → y.2.1 < x.2.1) ∧ (∀ y, findR (fairR l) x.1 true = some y → y.2.1 < x.2.1) ∧
    (findR (fairR l) x.1 true = none → ((fairR l).length : Int) < room) := by
  unfold bgnR at h
  by_cases h1 : namedB x.1 x.2.1 = false
  · rw [if_pos h1] at h; cases h
  rw [if_neg h1] at h
  by_cases h2 : (findR (fairR l) x.1 false).any (fun h => decide (h.2.1 ≥ x.2.1)) = true
  · rw [if_pos h2] at h; cases h
  rw [if_neg h2] at h
  by_cases h3 : (findR (fairR l) x.1 true).any (fun h => decide (h.2.1 ≥ x.2.1)) = true
  · rw [if_pos h3] at h; cases h
  rw [if_neg h3] at h
  by_cases h4 : ((findR (fairR l) x.1 true).isNone && decide (((fairR l).length : Int) ≥ room)) = true
  · rw [if_pos h4] at h; cases h
  rw [if_neg h4] at h
  refine ⟨(congrArg Prod.snd h).symm, by simpa using h1, fun y hy => ?_, fun y hy => ?_, fun hn => ?_⟩
  · rw [hy] at h2; simpa using h2
  · rw [hy] at h3; simpa using h3
  · rw [hn] at h4; simpa using h4
theorem bgnR_bad {l : List Re} {x : Re} {room : Int} (h : (bgnR l x room).1 ≠ 0) : (bgnR l x room).2 = [] := by
  unfold bgnR at h ⊢
  repeat' (split at h)
  all_goals (simp at h)
  all_goals simp_all
theorem bgnR_may {l : List Re} {x : Re} {room : Int} {m : List Re} (h : bgnR l x room = (0, m)) : mayR m = true := by
  obtain ⟨rfl, hn, h1, h2, _⟩ := bgnR_ok h
  have hris := fairR_ris l
  refine mayR_put (fairR_may l) (by unfold okR; simp [hn]) (fun y hy hk he => ?_) (fun y hy hk he => ?_)
  · have hk' : kR y < 2 * x.1 + 1 := hk
    have ht : y.2.2.2.1 = false := by
      cases e : y.2.2.2.1 with
      | false => rfl
      | true =>
        have h9 : kR y = 2 * y.1 + 1 := by unfold kR; rw [e]; rfl
        have h8 : y.1 = x.1 := he
        omega
    exact h1 y ((findR_some hris).2 ⟨hy, he, ht⟩)
  · have hk' : 2 * x.1 + 1 < kR y := hk
    have h8 : x.1 = y.1 := he
    unfold kR at hk'
    have := flI_le y.2.2.2.1
    omega
/-- What is committed. -/
theorem cmtR_ok {l : List Re} {c v : Int} {m : List Re} (h : cmtR l c v = (0, m)) :
    ∃ t, findR (fairR l) c true = some t ∧ t.2.1 = v ∧ m = putR (dropR (fairR l) (2 * c + 1)) (t.1, t.2.1, t.2.2.1, false, t.2.2.2.2) := by
  unfold cmtR at h
  cases hf : findR (fairR l) c true with
  | none => rw [hf] at h; cases h
  | some t =>
    rw [hf] at h
    simp only at h
    split at h
    · exact ⟨t, rfl, ‹_›, (congrArg Prod.snd h).symm⟩
    · cases h
theorem cmtR_bad {l : List Re} {c v : Int} (h : (cmtR l c v).1 ≠ 0) : (cmtR l c v).2 = [] := by
  unfold cmtR at h ⊢
  cases hf : findR (fairR l) c true with
  | none => rfl
  | some t =>
    rw [hf] at h
    simp only at h ⊢
    split at h
    · exact absurd rfl h
    · rw [if_neg ‹_›]
theorem cmtR_may {l : List Re} {c v : Int} {m : List Re} (h : cmtR l c v = (0, m)) : mayR m = true := by
  obtain ⟨t, hf, hv, rfl⟩ := cmtR_ok h
  have hris := fairR_ris l
  obtain ⟨hm, hc, ht⟩ := (findR_some hris).1 hf
  have hok := ((mayR_iff _).1 (fairR_may l)).1 t hm
  have hna := okR_named hok
  refine mayR_put (mayR_sub (fairR_may l) (dropR_sub _ _)) (by unfold okR; simp [hna]) (fun y hy hk he => ?_) (fun y hy hk he => ?_)
  · rw [kR_held] at hk
    have h8 : y.1 = t.1 := he
    unfold kR at hk
    have := flI_le y.2.2.2.1
    omega
  · rw [kR_held] at hk
    have h8 : t.1 = y.1 := he
    have := (List.mem_filter.1 hy).2
    simp only [bne_iff_ne, ne_eq] at this
    unfold kR at hk this
    have := flI_le y.2.2.2.1
    omega

theorem bgnR_len (l : List Re) (x : Re) (room : Int) : (bgnR l x room).2.length ≤ l.length + 1 := by
  have h1 := putR_len_le (fairR l) (x.1, x.2.1, x.2.2.1, true, false)
  have h2 := fairR_len l
  unfold bgnR
  repeat' split
  all_goals simp only [List.length_nil]
  all_goals omega
theorem cmtR_len (l : List Re) (c v : Int) : (cmtR l c v).2.length ≤ l.length + 1 := by
  have h2 := fairR_len l
  unfold cmtR
  repeat' split
  all_goals simp only [List.length_nil]
  · omega
  · next t _ _ =>
    have h1 := putR_len_le (dropR (fairR l) (2 * c + 1)) (t.1, t.2.1, t.2.2.1, false, t.2.2.2.2)
    have h3 := dropR_len_le (fairR l) (2 * c + 1)
    omega
  · omega

/-- P10: of two that are begun just the newer can be committed. -/
theorem newest_law {l m n : List Re} {x y : Re} {r : Int} (hc : x.1 = y.1) (h1 : bgnR l x r = (0, m)) (h2 : bgnR m y r = (0, n)) :
    x.2.1 < y.2.1 ∧ (cmtR n x.1 x.2.1).1 = 5 ∧ (cmtR n y.1 y.2.1).1 = 0 ∧ n.length = m.length ∧ hasR (cmtR n y.1 y.2.1).2 y.1 y.2.1 y.2.2.1 = true := by
  have hm := bgnR_may h1
  have hn := bgnR_may h2
  obtain ⟨e1, _, _, _, _⟩ := bgnR_ok h1
  obtain ⟨e2, hna, _, ht, _⟩ := bgnR_ok h2
  rw [fairR_of hm] at e2 ht
  have hmr := mayR_ris hm
  have hf : findR m y.1 true = some (x.1, x.2.1, x.2.2.1, true, false) := by
    rw [e1, ← hc]
    exact findR_put (fairR_ris l) (x.1, x.2.1, x.2.2.1, true, false)
  have hlt := ht _ hf
  have hg : findR n y.1 true = some (y.1, y.2.1, y.2.2.1, true, false) := by
    rw [e2]
    exact findR_put hmr (y.1, y.2.1, y.2.2.1, true, false)
  have hcy : cmtR n y.1 y.2.1 = (0, putR (dropR n (2 * y.1 + 1)) (y.1, y.2.1, y.2.2.1, false, false)) := by
    unfold cmtR
    rw [fairR_of hn, hg]
    simp
  have hcx : cmtR n x.1 x.2.1 = (5, []) := by
    unfold cmtR
    rw [fairR_of hn, hc, hg]
    have : ¬ y.2.1 = x.2.1 := by have : x.2.1 < y.2.1 := hlt; omega
    simp [this]
  refine ⟨hlt, by rw [hcx], by rw [hcy], ?_, ?_⟩
  · have hin := ((findR_some hmr).1 hf).1
    have := dropR_lt hmr hin
    rw [kR_temp, hc] at this
    rw [e2, putR_len, kR_temp]
    exact this
  · unfold hasR
    rw [fairR_of (cmtR_may (show cmtR n y.1 y.2.1 = (0, (cmtR n y.1 y.2.1).2) by rw [hcy])), hcy]
    simp only
    have := findR_put (dropR_ris (mayR_ris hn) (2 * y.1 + 1)) (y.1, y.2.1, y.2.2.1, false, false)
    simp only at this
    rw [this]
    simp

theorem mem_held {l : List Re} (h : ∀ y ∈ l, y.2.2.2.1 = false) (c : Int) : ∀ y ∈ l, kR y ≠ 2 * c + 1 := fun y hy e => by
  unfold kR at e
  rw [h y hy] at e
  simp [flI] at e
  omega
/-- P10.2 to P10.4: begun and committed. -/
theorem twice_law {l m : List Re} {x : Re} {r : Int} (hm0 : mayR l = true) (hno : ∀ y ∈ l, y.2.2.2.1 = false) (h1 : bgnR l x r = (0, m)) :
    (cmtR m x.1 x.2.1).1 = 0 ∧ heldR l x.1 = heldR m x.1 ∧ rstR m = l ∧ abtR m x.1 = l ∧ hasR (cmtR m x.1 x.2.1).2 x.1 x.2.1 x.2.2.1 = true ∧ hasR m x.1 x.2.1 x.2.2.1 = false := by
  have hm := bgnR_may h1
  obtain ⟨e1, hna, hh, _, _⟩ := bgnR_ok h1
  rw [fairR_of hm0] at e1 hh
  have hl := mayR_ris hm0
  have hmr := mayR_ris hm
  have hg : findR m x.1 true = some (x.1, x.2.1, x.2.2.1, true, false) := by
    rw [e1]
    exact findR_put hl (x.1, x.2.1, x.2.2.1, true, false)
  have hcx : cmtR m x.1 x.2.1 = (0, putR (dropR m (2 * x.1 + 1)) (x.1, x.2.1, x.2.2.1, false, false)) := by
    unfold cmtR
    rw [fairR_of hm, hg]
    simp
  have hhe : findR m x.1 false = findR l x.1 false := by
    rw [e1]
    exact findR_put_other hl _ (fun h => by cases h.2)
  have hcut : l.filter (fun y => decide (kR y < 2 * x.1 + 1)) ++ l.filter (fun y => decide (2 * x.1 + 1 < kR y)) = l := by
    rw [filter2_drop hl, dropR_none (mem_held hno x.1)]
  have hmem : m = l.filter (fun y => decide (kR y < 2 * x.1 + 1)) ++ (x.1, x.2.1, x.2.2.1, true, false) :: l.filter (fun y => decide (2 * x.1 + 1 < kR y)) := e1
  refine ⟨by rw [hcx], by rw [heldR_find, heldR_find, hhe], ?_, ?_, ?_, ?_⟩
  · unfold rstR
    rw [fairR_of hm]
    conv => lhs; rw [hmem]
    rw [List.filter_append, List.filter_cons_of_neg (by simp), ← List.filter_append, hcut]
    exact List.filter_eq_self.2 fun y hy => by rw [hno y hy]; rfl
  · unfold abtR
    rw [fairR_of hm]
    conv => lhs; rw [hmem]
    rw [List.filter_append, List.filter_cons_of_neg (by simp), ← List.filter_append, hcut]
    exact List.filter_eq_self.2 fun y hy => by rw [hno y hy]; simp
  · unfold hasR
    rw [fairR_of (cmtR_may (show cmtR m x.1 x.2.1 = (0, (cmtR m x.1 x.2.1).2) by rw [hcx])), hcx]
    simp only
    have := findR_put (dropR_ris hmr (2 * x.1 + 1)) (x.1, x.2.1, x.2.2.1, false, false)
    simp only at this
    rw [this]
    simp
  · unfold hasR
    rw [fairR_of hm, hhe]
    cases hf : findR l x.1 false with
    | none => rfl
    | some y =>
      have := hh y hf
      simp only [Option.any_some, beq_eq_false_iff_ne, ne_eq]
      rintro rfl
      simp at this

def scrR (l : List Re) : List Re := (fairR l).filter (fun z => !z.2.2.2.2)
theorem scrR_may (l : List Re) : mayR (scrR l) = true := mayR_sub (fairR_may l) List.filter_sublist
theorem scrR_good {l : List Re} : ∀ y ∈ scrR l, y.2.2.2.2 = false := fun y hy => by simpa using (List.mem_filter.1 hy).2
theorem scrR_scr (l : List Re) : scrR (scrR l) = scrR l := by
  show (fairR (scrR l)).filter (fun z => !z.2.2.2.2) = scrR l
  rw [fairR_of (scrR_may l)]
  exact List.filter_eq_self.2 fun y hy => by rw [scrR_good y hy]; rfl
theorem badsI_none {l : List Re} (h : ∀ y ∈ l, y.2.2.2.2 = false) : badsI l = [] := by
  unfold badsI
  rw [List.filter_eq_nil_iff.2 fun y hy => by rw [h y hy]; simp]
  rfl
theorem spl_key (c : Int) (z : Re) : kR (if kR z = 2 * c then badOf z else z) = kR z := by
  split <;> rfl
theorem splR_ok {l : List Re} {c : Int} {m : List Re} (h : splR l c = (0, m)) : (∃ y, findR (fairR l) c false = some y) ∧ m = (fairR l).map (fun z => if kR z = 2 * c then badOf z else z) := by
  unfold splR at h
  split at h
  · refine ⟨Option.isSome_iff_exists.1 ‹_›, (congrArg Prod.snd h).symm⟩
  · cases h
theorem splR_bad {l : List Re} {c : Int} (h : (splR l c).1 ≠ 0) : (splR l c).2 = [] := by
  unfold splR at h ⊢
  split at h
  · exact absurd rfl h
  · rw [if_neg ‹_›]
theorem splR_may {l : List Re} {c : Int} {m : List Re} (h : splR l c = (0, m)) : mayR m = true := by
  obtain ⟨_, rfl⟩ := splR_ok h
  obtain ⟨ha, hb⟩ := (mayR_iff _).1 (fairR_may l)
  refine (mayR_iff _).2 ⟨fun y hy => ?_, ?_⟩
  · obtain ⟨z, hz, rfl⟩ := List.mem_map.1 hy
    have hz1 := ha z hz
    split
    · next hk =>
      have h0 : (2 * c : Int) = 2 * c + flI false := by simp [flI]
      rw [h0] at hk
      obtain ⟨h1, h2⟩ := kR_eq.1 hk
      have hn := okR_named hz1
      unfold okR badOf
      simp [hn, h2]
    · exact hz1
  · rw [List.pairwise_map]
    refine hb.imp fun {a b} hab => ?_
    refine ⟨by rw [spl_key, spl_key]; exact hab.1, ?_⟩
    have e1 : ∀ z : Re, (if kR z = 2 * c then badOf z else z).1 = z.1 := fun z => by split <;> rfl
    have e2 : ∀ z : Re, (if kR z = 2 * c then badOf z else z).2.1 = z.2.1 := fun z => by split <;> rfl
    rw [e1, e1, e2, e2]
    exact hab.2
/-- P10.3, P10.4: scrubbed, spoilt, scrubbed. -/
theorem scrubs_law {l s : List Re} {c : Int} (h1 : splR (scrR l) c = (0, s)) :
    ∃ h, heldR (scrR l) c = some h ∧ hasR s c h.2.1 h.2.2.1 = false ∧ hasR (scrR l) c h.2.1 h.2.2.1 = true ∧ badsI (fairR s) = [c] := by
  have hs := splR_may h1
  obtain ⟨⟨y, hy⟩, e⟩ := splR_ok h1
  have hm := scrR_may l
  rw [fairR_of hm] at hy e
  have hr := mayR_ris hm
  obtain ⟨hin, hc, ht⟩ := (findR_some hr).1 hy
  have hg := scrR_good y hin
  have hk : kR y = 2 * c := by have := kR_eq.2 ⟨hc, ht⟩; simpa [flI] using this
  obtain ⟨y0, y1, y2, y3, y4⟩ := y
  simp only at hc ht hg
  subst hc ht hg
  have hin2 : badOf (y0, y1, y2, false, false) ∈ s := by
    rw [e]
    refine List.mem_map.2 ⟨_, hin, ?_⟩
    rw [if_pos hk]
  refine ⟨_, by rw [heldR_find]; exact hy, ?_, ?_, ?_⟩
  · unfold hasR
    have hfs : findR s y0 false = some (badOf (y0, y1, y2, false, false)) := (findR_some (mayR_ris hs)).2 ⟨hin2, rfl, rfl⟩
    rw [fairR_of hs, hfs]
    simp [badOf]
  · unfold hasR
    rw [fairR_of hm, hy]
    simp
  · rw [fairR_of hs, e]
    unfold badsI
    rw [List.filter_map]
    have : (scrR l).filter ((fun z : Re => z.2.2.2.2) ∘ fun z => if kR z = 2 * y0 then badOf z else z) = (scrR l).filter (fun z => decide (kR z = kR (y0, y1, y2, false, false))) := by
      refine List.filter_congr fun z hz => ?_
      rw [hk]
      simp only [Function.comp]
      split
      · rw [decide_eq_true ‹_›]; rfl
      · rw [decide_eq_false ‹_›]; exact scrR_good z hz
    rw [this, hr.filter_key hin]
    simp [hk, badOf]

/-- P10.3: removed. -/
theorem removes_law {l m : List Re} {c : Int} (hm0 : mayR l = true) (h1 : rmvR l c = (0, m)) :
    (rmvR m c).1 = 5 ∧ m = l.filter (fun z => !(z.1 == c) || z.2.2.2.1) ∧ mayR m = true := by
  unfold rmvR at h1
  rw [fairR_of hm0] at h1
  split at h1
  · have e := (congrArg Prod.snd h1).symm
    simp only at e
    have hm : mayR m = true := by rw [e]; exact mayR_sub hm0 List.filter_sublist
    refine ⟨?_, ?_, hm⟩
    · unfold rmvR
      rw [fairR_of hm]
      have : findR m c false = none := findR_none.2 fun x hx hh => by
        rw [e] at hx
        have := (List.mem_filter.1 hx).2
        rw [hh.2] at this
        simp [hh.1] at this
      rw [this]
      rfl
    · rw [e]
      refine List.filter_congr fun z _ => ?_
      cases z.1 == c <;> cases z.2.2.2.1 <;> rfl
  · cases h1
theorem rmvR_bad {l : List Re} {c : Int} (h : (rmvR l c).1 ≠ 0) : (rmvR l c).2 = [] := by
  unfold rmvR at h ⊢
  split at h
  · exact absurd rfl h
  · rw [if_neg ‹_›]

end Go.Proofs.Ytncgpojjibojlaa

/- The two servers answer alike: plain data, no program in sight. -/
import Derived.Test.YtncgpojjibojlaaGnq
import Derived.Test.YtncgpojjibojlaaGgq
namespace Go.Proofs.Ytncgpojjibojlaa
open Go

/-- The document's server r and this one: the same replicas, the same bytes wherever there is a replica. -/
structure SimS (s r : Sv) : Prop where
  ok : OkS s
  room : r.room = s.room
  l : r.l = s.l
  f : ∀ x ∈ s.l, r.f x.1 x.2.2.2.1 = s.f x.1 x.2.2.2.1
theorem mem_drop {l : List Re} {k : Int} {x : Re} (h : x ∈ dropR l k) : x ∈ l ∧ kR x ≠ k := by
  unfold dropR at h
  rw [List.mem_filter] at h
  exact ⟨h.1, by simpa using h.2⟩
theorem ne_place {x : Re} {c : Int} {t : Bool} (h : kR x ≠ 2 * c + flI t) : ¬ (x.1 = c ∧ x.2.2.2.1 = t) := fun e => h (kR_eq.2 e)
theorem SimS.spoilt {s r : Sv} (h : SimS s r) {x : Re} (hx : x ∈ s.l) (ht : x.2.2.2.1 = false) : spoiltS r x = spoiltS s x := by
  have := h.f x hx
  rw [ht] at this
  unfold spoiltS
  rw [this]
theorem SimS.new (room : Int) : SimS (newS room) (newS room) := ⟨OkS.new room, rfl, rfl, fun _ _ => rfl⟩
theorem SimS.read {s r : Sv} (h : SimS s r) (c : Int) : readQ r c = readS s c := by
  rw [readS_eq h.ok]
  unfold readQ
  rw [h.l]
  cases hf : findR s.l c false with
  | none => rfl
  | some x =>
    obtain ⟨h1, h2, h3⟩ := (findR_some h.ok.ris).1 hf
    simp only
    rw [h.spoilt h1 h3]
    have := h.f x h1
    rw [h2, h3] at this
    rw [this]
theorem SimS.bgn {s r : Sv} (h : SimS s r) (c v u : Int) {d : List Nat} (hd : okB d) : (bgnS r c v u d).1 = (bgnS s c v u d).1 ∧ SimS (bgnS s c v u d).2 (bgnS r c v u d).2 := by
  have hok := h.ok.bgn (c := c) (v := v) (u := u) hd
  by_cases h1 : 64 < d.length
  · have e : ∀ z, bgnS z c v u d = (7, z) := fun z => by unfold bgnS; rw [if_pos h1]
    rw [e, e]
    exact ⟨rfl, h⟩
  by_cases h2 : ((sumC d : Nat) : Int) = u
  · obtain ⟨⟨a, m⟩, hm⟩ : ∃ p, bgnR s.l (c, v, u, false, false) s.room = p := ⟨_, rfl⟩
    have hm' : bgnR r.l (c, v, u, false, false) r.room = (a, m) := by rw [h.l, h.room]; exact hm
    by_cases ha : a = 0
    · subst ha
      rw [bgnS_ok h1 h2 hm] at hok
      rw [bgnS_ok h1 h2 hm, bgnS_ok h1 h2 hm']
      refine ⟨rfl, hok, h.room, rfl, fun x hx => ?_⟩
      obtain ⟨rfl, _⟩ := bgnR_ok hm
      rcases putR_mem.1 hx with rfl | ⟨h3, h4⟩
      · exact (upF_same _ _ _ _).trans (upF_same _ _ _ _).symm
      · rw [kR_temp] at h4
        have hne : ¬ (x.1 = c ∧ x.2.2.2.1 = true) := ne_place (t := true) h4
        rw [h.ok.fair] at h3
        exact (upF_other _ _ hne).trans ((h.f x h3).trans (upF_other _ _ hne).symm)
    · rw [bgnS_no h1 h2 hm ha, bgnS_no h1 h2 hm' ha]
      exact ⟨rfl, h⟩
  · have e : ∀ z, bgnS z c v u d = (4, z) := fun z => by unfold bgnS; rw [if_neg h1, if_pos h2]
    rw [e, e]
    exact ⟨rfl, h⟩
theorem SimS.cmt {s r : Sv} (h : SimS s r) (c v : Int) : (cmtQ r c v).1 = (cmtS s c v).1 ∧ SimS (cmtS s c v).2 (cmtQ r c v).2 := by
  have hok := h.ok.cmt c v
  obtain ⟨⟨a, m⟩, hm⟩ : ∃ p, cmtR s.l c v = p := ⟨_, rfl⟩
  have hm' : cmtR r.l c v = (a, m) := by rw [h.l]; exact hm
  by_cases ha : a = 0
  · subst ha
    rw [cmtS_ok hm] at hok
    rw [cmtS_ok hm, cmtQ_ok hm']
    refine ⟨rfl, hok, h.room, rfl, fun x hx => ?_⟩
    obtain ⟨t, ht, _, rfl⟩ := cmtR_ok hm
    rw [h.ok.fair] at ht hx
    obtain ⟨t1, t2, t3⟩ := (findR_some h.ok.ris).1 ht
    rcases putR_mem.1 hx with rfl | ⟨h3, h4⟩
    · show upF r.f c false (r.f c true) t.1 false = upF (upF s.f c false (s.f c true)) c true [] t.1 false
      rw [t2, upF_same, upF_other _ _ (by simp), upF_same]
      have := h.f t t1
      rw [t2, t3] at this
      exact this
    · obtain ⟨h5, h6⟩ := mem_drop h3
      rw [kR_held, t2] at h4
      have n1 : ¬ (x.1 = c ∧ x.2.2.2.1 = true) := ne_place (t := true) h6
      have n2 : ¬ (x.1 = c ∧ x.2.2.2.1 = false) := ne_place (t := false) (by simpa [flI] using h4)
      show upF r.f c false (r.f c true) x.1 x.2.2.2.1 = upF (upF s.f c false (s.f c true)) c true [] x.1 x.2.2.2.1
      rw [upF_other _ _ n2, upF_other _ _ n1, upF_other _ _ n2]
      exact h.f x h5
  · rw [cmtS_no hm ha, cmtQ_no hm' ha]
    exact ⟨rfl, h⟩
theorem SimS.abt {s r : Sv} (h : SimS s r) (c : Int) : SimS (abtS s c) ⟨r.room, abtR r.l c, r.f⟩ := by
  refine ⟨h.ok.abt c, h.room, by rw [h.l]; rfl, fun x hx => ?_⟩
  have hx' : x ∈ abtR s.l c := hx
  rw [abtR_dropS, h.ok.fair] at hx'
  obtain ⟨h1, h2⟩ := mem_drop hx'
  show r.f x.1 x.2.2.2.1 = upF s.f c true [] x.1 x.2.2.2.1
  rw [upF_other _ _ (ne_place h2)]
  exact h.f x h1
theorem SimS.rmv {s r : Sv} (h : SimS s r) (c : Int) : (rmvQ r c).1 = (rmvS s c).1 ∧ SimS (rmvS s c).2 (rmvQ r c).2 := by
  have hok := h.ok.rmv c
  have he := rmvR_eq h.ok c
  have he' : rmvR r.l c = rmvR s.l c := by rw [h.l]
  rw [he] at he'
  rw [rmvS_eq h.ok] at hok ⊢
  cases hf : (findR s.l c false).isSome with
  | true =>
    rw [hf] at he' hok
    rw [if_pos rfl] at he' hok ⊢
    rw [rmvQ_ok he']
    refine ⟨rfl, hok, h.room, rfl, fun x hx => ?_⟩
    obtain ⟨h1, h2⟩ := mem_drop hx
    show r.f x.1 x.2.2.2.1 = upF s.f c false [] x.1 x.2.2.2.1
    rw [upF_other _ _ (ne_place h2)]
    exact h.f x h1
  | false =>
    rw [hf] at he'
    simp only [Bool.false_eq_true, if_false] at he' ⊢
    rw [rmvQ_no he' (by omega)]
    exact ⟨rfl, h⟩
theorem SimS.spl {s r : Sv} (h : SimS s r) (c bit : Int) : (splQ r c bit).1 = (splS s c bit).1 ∧ SimS (splS s c bit).2 (splQ r c bit).2 := by
  have hok := h.ok.spl c bit
  cases hf : findR s.l c false with
  | none =>
    have h0 : s.f c false = [] := by
      by_cases e : s.f c false = []
      · exact e
      · have := h.ok.there c false e
        rw [hf] at this
        cases this
    have e1 : splS s c bit = (5, s) := by unfold splS; rw [if_pos h0]
    have e2 : splQ r c bit = (5, r) := by unfold splQ; rw [if_pos (.inl (by rw [h.l, hf]; rfl))]
    rw [e1, e2]
    exact ⟨rfl, h⟩
  | some x =>
    obtain ⟨h1, h2, h3⟩ := (findR_some h.ok.ris).1 hf
    have hfx := h.f x h1
    rw [h2, h3] at hfx
    by_cases h0 : s.f c false = []
    · have e1 : splS s c bit = (5, s) := by unfold splS; rw [if_pos h0]
      have e2 : splQ r c bit = (5, r) := by unfold splQ; rw [if_pos (.inr (by rw [hfx]; exact h0))]
      rw [e1, e2]
      exact ⟨rfl, h⟩
    · have e1 : splS s c bit = (0, ⟨s.room, s.l, upF s.f c false (turnB (s.f c false) (bit.toNat % (8 * (s.f c false).length)))⟩) := by unfold splS; rw [if_neg h0]
      have e2 : splQ r c bit = (0, ⟨r.room, r.l, upF r.f c false (turnB (s.f c false) (bit.toNat % (8 * (s.f c false).length)))⟩) := by
        unfold splQ
        rw [if_neg (by rw [h.l, hf, hfx]; rintro (e | e); · cases e
                       · exact h0 e), hfx]
      rw [e1] at hok
      rw [e1, e2]
      refine ⟨rfl, hok, h.room, h.l, fun y hy => ?_⟩
      show upF r.f c false _ y.1 y.2.2.2.1 = upF s.f c false _ y.1 y.2.2.2.1
      by_cases e : y.1 = c ∧ y.2.2.2.1 = false
      · rw [e.1, e.2, upF_same, upF_same]
      · rw [upF_other _ _ e, upF_other _ _ e]
        exact h.f y hy
theorem SimS.bad {s r : Sv} (h : SimS s r) {x : Re} (hx : x ∈ s.l) : badQ r x = (spoiltS s x && !x.2.2.2.1) := by
  unfold badQ
  cases ht : x.2.2.2.1 with
  | true => simp
  | false => rw [h.spoilt hx ht]
theorem SimS.gone {s r : Sv} (h : SimS s r) : goneQ r = badS s := by
  unfold goneQ badS
  have : rstR s.l = s.l.filter (fun z => !z.2.2.2.1) := by unfold rstR; rw [h.ok.fair]
  rw [this, List.filter_filter, h.l]
  congr 1
  refine List.filter_congr fun x hx => ?_
  rw [h.bad hx]
theorem SimS.bad_iff {s r : Sv} (h : SimS s r) {x : Re} (hx : x ∈ s.l) : badQ r x = (!x.2.2.2.1 && (badS s).contains x.1) := by
  rw [h.bad hx]
  cases ht : x.2.2.2.1 with
  | true => simp
  | false =>
    simp only [Bool.not_false, Bool.and_true, Bool.true_and]
    rw [Bool.eq_iff_iff, List.contains_iff_mem, mem_badS h.ok]
    constructor
    · intro hs
      exact ⟨x, hx, ht, rfl, hs⟩
    · rintro ⟨y, hy, hyt, hyc, hys⟩
      have e1 := (findR_some h.ok.ris).2 ⟨hx, rfl, ht⟩
      have e2 := (findR_some h.ok.ris).2 ⟨hy, hyc, hyt⟩
      rw [e1] at e2
      injection e2 with e2
      rw [e2]
      exact hys
theorem SimS.scr {s r : Sv} (h : SimS s r) : SimS (scrS s) (scrQ r) := by
  have hok := h.ok.scr
  have he : scrS s = ⟨s.room, s.l.filter (fun z => !(!z.2.2.2.1 && (badS s).contains z.1)), fun c t => if !t && (badS s).contains c then [] else s.f c t⟩ := by unfold scrS; exact rmvL_eq h.ok _
  rw [he] at hok ⊢
  refine ⟨hok, h.room, ?_, fun x hx => ?_⟩
  · show r.l.filter _ = s.l.filter _
    rw [h.l]
    refine List.filter_congr fun x hx => ?_
    rw [h.bad_iff hx]
  · have hx' := List.mem_filter.1 hx
    show r.f x.1 x.2.2.2.1 = if (!x.2.2.2.1 && (badS s).contains x.1) = true then [] else s.f x.1 x.2.2.2.1
    rw [if_neg (by have := hx'.2; rw [Bool.not_eq_true'] at this; rw [this]; simp)]
    exact h.f x hx'.1
theorem SimS.reb {s r : Sv} (h : SimS s r) : SimS (rebS s) ⟨r.room, rstR r.l, r.f⟩ := by
  have hok := h.ok.reb
  rw [rebS_eq h.ok] at hok ⊢
  refine ⟨hok, h.room, by rw [h.l], fun x hx => ?_⟩
  obtain ⟨h1, h2⟩ := (rst_mem h.ok).1 hx
  show r.f x.1 x.2.2.2.1 = if x.2.2.2.1 = true then [] else s.f x.1 x.2.2.2.1
  rw [if_neg (by rw [h2]; simp)]
  exact h.f x h1
theorem SimS.wipe {s r : Sv} (h : SimS s r) : SimS (wipeS s) ⟨r.room, [], r.f⟩ := ⟨h.ok.wipe, h.room, rfl, fun x hx => by cases hx⟩
theorem SimS.step {s r : Sv} (h : SimS s r) {o : Op11} (hb : okB o.d) : (didQ r o).1 = (doS s o).1 ∧ goneO r o = goS s o ∧ SimS (doS s o).2 (didQ r o).2 := by
  unfold didQ doS goneO goS
  by_cases h0 : o.kind = 0
  · simp only [h0, if_true]
    exact ⟨(h.bgn _ _ _ hb).1, rfl, (h.bgn _ _ _ hb).2⟩
  by_cases h1 : o.kind = 1
  · simp [h1]
    exact h.cmt _ _
  by_cases h2 : o.kind = 2
  · simp [h2]
    exact h.abt _
  by_cases h3 : o.kind = 3
  · simp [h3]
    exact h.rmv _
  by_cases h4 : o.kind = 4
  · simp [h4]
    exact h.spl _ _
  by_cases h5 : o.kind = 5
  · simp [h5]
    exact ⟨h.gone, h.scr⟩
  by_cases h6 : o.kind = 6
  · simp [h6]
    exact h.reb
  simp only [h0, h1, h2, h3, h4, h5, h6, if_false]
  exact ⟨trivial, trivial, h.wipe⟩

end Go.Proofs.Ytncgpojjibojlaa

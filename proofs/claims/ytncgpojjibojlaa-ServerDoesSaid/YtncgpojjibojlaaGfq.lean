/- A server in memory; server.take, New, Len, Report: their contracts. -/
import Derived.Test.YtncgpojjibojlaaGbq
import Derived.Test.YtncgpojjibojlaaGcq
import Derived.Test.YtncgpojjibojlaaReO4q
import Derived.Test.YtncgpojjibojlaaCrc4q
namespace Go.Proofs.Ytncgpojjibojlaa
open Go Go.RowKit Go.Sort

abbrev wfI (c : Int) : Prop := (Lit.int .i64 c).wf = true
/-- A server in memory: its box, its replicas, its map, the bytes of each place; G: the blocks that are its own. -/
structure SrvV (w : World) (G : Nat → Prop) (p k : Nat) (s : Sv) (lv : Value) (mb : Nat) (F : Int → Bool → Value) : Prop where
  box : Bx w p 82 [.int .i64 s.room, lv, .map (some mb)]
  own : Own w 0 52 5 lv s.l.length (s.l.flatMap reC)
  map : MapV w mb k F
  row : ∀ c t, wfI c → Own w 0 5 1 (F c t) (s.f c t).length ((s.f c t).flatMap byC)
  sep : ∀ c t d u, wfI c → wfI d → ¬ (c = d ∧ t = u) → ∀ g, blk (F c t) = some g → blk (F d u) ≠ some g
  gp : G p
  gm : G mb
  gl : ∀ g, blk lv = some g → G g
  gf : ∀ c t, wfI c → ∀ g, blk (F c t) = some g → G g
  lt : ∀ i, G i → i < w.heap.size
def SrvAt (w : World) (G : Nat → Prop) (p k : Nat) (s : Sv) : Prop := ∃ lv mb F, SrvV w G p k s lv mb F
/-- What a step of the server may turn: its own blocks; what it has then: these, and new ones. -/
def StepG (G G' : Nat → Prop) (w w' : World) : Prop := Fr G w w' ∧ ∀ i, G' i → G i ∨ w.heap.size ≤ i
def SvE (G : Nat → Prop) (p k : Nat) (s : Sv) (r : Value) (w : World) (e : Ending) (w' : World) : Prop := ∃ G', e = .returned r ∧ SrvAt w' G' p k s ∧ StepG G G' w w'

theorem StepG.refl (G : Nat → Prop) (w : World) : StepG G G w w := ⟨Fr.refl _ _, fun _ h => .inl h⟩
theorem StepG.trans {A B C : Nat → Prop} {a b c : World} (h : StepG A B a b) (k : StepG B C b c) : StepG A C a c :=
  ⟨h.1.trans k.1 h.2, fun i hi => by
    rcases k.2 i hi with h1 | h1
    · exact h.2 i h1
    · exact .inr (Nat.le_trans h.1.size h1)⟩
theorem StepG.below {G : Nat → Prop} {a b : World} (h : Below a.heap.size a b) : StepG G G a b := ⟨Fr.of_below h, fun _ h => .inl h⟩
theorem StepG.thenBelow {A B : Nat → Prop} {a b c : World} (h : StepG A B a b) (hb : Below b.heap.size b c) : StepG A B a c := h.trans (StepG.below hb)
theorem StepG.base {A B : Nat → Prop} {a b : World} {n : Nat} (h : StepG A B a b) (hn : n ≤ a.heap.size) (hA : ∀ i, A i → n ≤ i) : Below n a b ∧ ∀ i, B i → n ≤ i :=
  ⟨h.1.below hn hA, fun i hi => by
    rcases h.2 i hi with h1 | h1
    · exact hA i h1
    · omega⟩
/-- What is none of the server's stays. -/
theorem StepG.own {A B : Nat → Prop} {a b : World} (h : StepG A B a b) {base size n : Nat} {e : TypeId} {v : Value} {xs : List Value} (ho : Own a base e size v n xs) (hn : ∀ g, blk v = some g → ¬ A g) : Own b base e size v n xs ∧ ∀ g, blk v = some g → ¬ B g :=
  ⟨ho.fr h.1 hn, fun g hg hb => by
    rcases h.2 g hb with h1 | h1
    · exact hn g hg h1
    · have := (ho.blk_lt hg).2; omega⟩

section
variable {w w' : World} {G : Nat → Prop} {p k : Nat} {s : Sv} {lv : Value} {mb : Nat} {F : Int → Bool → Value}
theorem SrvV.ne (h : SrvV w G p k s lv mb F) : p ≠ mb := fun e => by
  obtain ⟨es, clock, h1⟩ := h.map.obj
  have h2 : w.heap[p]? = _ := h.box
  rw [e, h1] at h2
  cases h2
theorem SrvV.ne_lm (h : SrvV w G p k s lv mb F) : ∀ g, blk lv = some g → g ≠ mb := fun g hg e => by
  obtain ⟨es, clock, h1⟩ := h.map.obj
  obtain ⟨cur, h2⟩ := h.own.blk_elem hg
  rw [e, h1] at h2
  cases h2
theorem SrvV.ne_lp (h : SrvV w G p k s lv mb F) : ∀ g, blk lv = some g → g ≠ p := fun g hg e => by
  obtain ⟨cur, h2⟩ := h.own.blk_elem hg
  have h1 : w.heap[p]? = _ := h.box
  rw [e, h1] at h2
  injection h2 with h2
  injection h2 with _ h3
  exact absurd h3 (by decide)
theorem SrvV.ne_fm (h : SrvV w G p k s lv mb F) {c : Int} {t : Bool} (hc : wfI c) : ∀ g, blk (F c t) = some g → g ≠ mb := fun g hg e => by
  obtain ⟨es, clock, h1⟩ := h.map.obj
  obtain ⟨cur, h2⟩ := (h.row c t hc).blk_elem hg
  rw [e, h1] at h2
  cases h2
theorem SrvV.ne_fp (h : SrvV w G p k s lv mb F) {c : Int} {t : Bool} (hc : wfI c) : ∀ g, blk (F c t) = some g → g ≠ p := fun g hg e => by
  obtain ⟨cur, h2⟩ := (h.row c t hc).blk_elem hg
  have h1 : w.heap[p]? = _ := h.box
  rw [e, h1] at h2
  injection h2 with h2
  injection h2 with _ h3
  exact absurd h3 (by decide)
theorem SrvV.ne_fl (h : SrvV w G p k s lv mb F) {c : Int} {t : Bool} (hc : wfI c) : ∀ g, blk (F c t) = some g → blk lv ≠ some g := fun g hg e => by
  obtain ⟨cur, h2⟩ := (h.row c t hc).blk_elem hg
  obtain ⟨cur', h1⟩ := h.own.blk_elem e
  rw [h1] at h2
  injection h2 with h2
  injection h2 with _ h3
  exact absurd h3 (by decide)
theorem SrvV.keep (h : SrvV w G p k s lv mb F) (hsz : w.heap.size ≤ w'.heap.size) (hk : ∀ i, G i → w'.heap[i]? = w.heap[i]?) : SrvV w' G p k s lv mb F :=
  ⟨(hk p h.gp).trans h.box, h.own.keep fun g hg => hk g (h.gl g hg), h.map.keep (hk mb h.gm), fun c t hc => (h.row c t hc).keep fun g hg => hk g (h.gf c t hc g hg), h.sep, h.gp, h.gm, h.gl, h.gf, fun i hi => Nat.lt_of_lt_of_le (h.lt i hi) hsz⟩
theorem SrvV.below' (h : SrvV w G p k s lv mb F) (hb : Below w.heap.size w w') : SrvV w' G p k s lv mb F := h.keep hb.size fun i hi => hb.block i (h.lt i hi)
theorem SrvV.mono {m : Nat} (h : SrvV w G p k s lv mb F) (hm : k ≤ m) : SrvV w G p m s lv mb F := ⟨h.box, h.own, h.map.mono hm, h.row, h.sep, h.gp, h.gm, h.gl, h.gf, h.lt⟩
/-- Its replicas are others now. -/
theorem SrvV.setL (h : SrvV w G p k s lv mb F) {l : List Re} {lv' : Value} (hb : Bx w' p 82 [.int .i64 s.room, lv', .map (some mb)]) (hf : Fr (fun i => i = p) w w') (ho : Own w 0 52 5 lv' l.length (l.flatMap reC)) :
    SrvV w' (fun i => G i ∨ blk lv' = some i) p k ⟨s.room, l, s.f⟩ lv' mb F :=
  have hne : ∀ g, blk lv' = some g → g ≠ p := fun g hg e => by
    obtain ⟨cur, h2⟩ := ho.blk_elem hg
    have h1 : w.heap[p]? = _ := h.box
    rw [e, h1] at h2
    injection h2 with h2
    injection h2 with _ h3
    exact absurd h3 (by decide)
  ⟨hb, ho.fr hf hne, h.map.fr hf (fun e => h.ne e.symm), fun c t hc => (h.row c t hc).fr hf (h.ne_fp hc), h.sep, .inl h.gp, .inl h.gm, fun g hg => .inr hg, fun c t hc g hg => .inl (h.gf c t hc g hg), fun i hi => Nat.lt_of_lt_of_le (hi.elim (h.lt i) (fun e => (ho.blk_lt e).2)) hf.size⟩
/-- Its map is another now. -/
theorem SrvV.setM (h : SrvV w G p k s lv mb F) {k' : Nat} {F' : Int → Bool → Value} {f' : Int → Bool → List Nat} {G' : Nat → Prop} (hm : MapV w' mb k' F') (hf : Fr (fun i => i = mb) w w')
    (hr : ∀ c t, wfI c → Own w 0 5 1 (F' c t) (f' c t).length ((f' c t).flatMap byC)) (hs : ∀ c t d u, wfI c → wfI d → ¬ (c = d ∧ t = u) → ∀ g, blk (F' c t) = some g → blk (F' d u) ≠ some g)
    (hG : ∀ i, G i → G' i) (hg : ∀ c t, wfI c → ∀ g, blk (F' c t) = some g → G' g) (hlt : ∀ i, G' i → i < w.heap.size) : SrvV w' G' p k' ⟨s.room, s.l, f'⟩ lv mb F' :=
  ⟨(hf.block p h.box.lt h.ne).trans h.box, h.own.fr hf h.ne_lm, hm, fun c t hc => (hr c t hc).fr hf (fun g hg e => by
    obtain ⟨es, clock, h1⟩ := h.map.obj
    obtain ⟨cur, h2⟩ := (hr c t hc).blk_elem hg
    rw [show g = mb from e, h1] at h2
    cases h2), hs, hG _ h.gp, hG _ h.gm, fun g hg' => hG _ (h.gl g hg'), hg, fun i hi => Nat.lt_of_lt_of_le (hlt i hi) hf.size⟩
theorem SrvV.dropM (h : SrvV w G p k s lv mb F) {k' : Nat} {c : Int} {t : Bool} (hm : MapV w' mb k' (upF F c t nilS)) (hf : Fr (fun i => i = mb) w w') : SrvV w' G p k' ⟨s.room, s.l, upF s.f c t []⟩ lv mb (upF F c t nilS) := by
  refine h.setM hm hf (fun d u hd => ?_) (fun d u d' u' hd hd' hne g hg hg' => ?_) (fun _ h => h) (fun d u hd g hg => ?_) h.lt
  · by_cases e : d = c ∧ u = t
    · obtain ⟨rfl, rfl⟩ := e
      rw [upF_same, upF_same]
      exact Own.nil_ _ _ _ _
    · rw [upF_other _ _ e, upF_other _ _ e]
      exact h.row d u hd
  · by_cases e : d = c ∧ u = t
    · obtain ⟨rfl, rfl⟩ := e
      rw [upF_same] at hg
      cases hg
    · rw [upF_other _ _ e] at hg
      by_cases e' : d' = c ∧ u' = t
      · obtain ⟨rfl, rfl⟩ := e'
        rw [upF_same] at hg'
        cases hg'
      · rw [upF_other _ _ e'] at hg'
        exact h.sep d u d' u' hd hd' hne g hg hg'
  · by_cases e : d = c ∧ u = t
    · obtain ⟨rfl, rfl⟩ := e
      rw [upF_same] at hg
      cases hg
    · rw [upF_other _ _ e] at hg
      exact h.gf d u hd g hg
theorem SrvV.putM (h : SrvV w G p k s lv mb F) {k' : Nat} {c : Int} {t : Bool} {v : Value} {d : List Nat} (hm : MapV w' mb k' (upF F c t v)) (hf : Fr (fun i => i = mb) w w') (ho : Own w 0 5 1 v d.length (d.flatMap byC)) (hn : ∀ g, blk v = some g → ¬ G g) :
    SrvV w' (fun i => G i ∨ blk v = some i) p k' ⟨s.room, s.l, upF s.f c t d⟩ lv mb (upF F c t v) := by
  refine h.setM hm hf (fun d u hd => ?_) (fun d u d' u' hd hd' hne g hg hg' => ?_) (fun _ h => .inl h) (fun d u hd g hg => ?_) (fun i hi => hi.elim (h.lt i) (fun e => (ho.blk_lt e).2))
  · by_cases e : d = c ∧ u = t
    · obtain ⟨rfl, rfl⟩ := e
      rw [upF_same, upF_same]
      exact ho
    · rw [upF_other _ _ e, upF_other _ _ e]
      exact h.row d u hd
  · by_cases e : d = c ∧ u = t
    · obtain ⟨rfl, rfl⟩ := e
      rw [upF_same] at hg
      rw [upF_other _ _ (fun e2 => hne ⟨e2.1.symm, e2.2.symm⟩)] at hg'
      exact hn g hg (h.gf d' u' hd' g hg')
    · rw [upF_other _ _ e] at hg
      by_cases e' : d' = c ∧ u' = t
      · obtain ⟨rfl, rfl⟩ := e'
        rw [upF_same] at hg'
        exact hn g hg' (h.gf d u hd g hg)
      · rw [upF_other _ _ e'] at hg'
        exact h.sep d u d' u' hd hd' hne g hg hg'
  · by_cases e : d = c ∧ u = t
    · obtain ⟨rfl, rfl⟩ := e
      rw [upF_same] at hg
      exact .inr hg
    · rw [upF_other _ _ e] at hg
      exact .inl (h.gf d u hd g hg)
end

theorem stake_any (p mb : Nat) (room : Int) (lv : Value) (A : Option Addr) (n cap : Nat) (e : Int) (w : World) (hb : Bx w p 82 [.int .i64 room, lv, .map (some mb)]) :
    Calls Try.prog 68 #[.pointer (some ⟨p, 0, none⟩), .slice A n cap, .int .i64 e] w fun en w' => en = .returned (.int .i64 e) ∧ Bx w' p 82 [.int .i64 room, if e = 0 then .slice A n cap else lv, .map (some mb)] ∧ Fr (fun i => i = p) w w' := by
  obtain ⟨q0, q1, q2⟩ := hb.three
  have HB := Lib.hid hb
  have z1 := hb.frozen 1
  clear hb
  by_cases he : e = 0
  · subst he
    have hs := HB.out.setJ 1 (.slice A n cap)
    have HS := Lib.hid hs
    clear hs
    go_enter Try.func68, Try.ntmps68
    go_wp2_with fail
    go_ret
    exact ⟨rfl, HS.out, (Fr.refl _ w).thenSet _ _ (.inl rfl)⟩
  · have he' : (e == 0) = false := by simpa using he
    go_enter Try.func68, Try.ntmps68
    go_wp2_with fail
    go_ret
    exact ⟨rfl, HB.out, Fr.refl _ _⟩

theorem slen_any (p k : Nat) (s : Sv) (G : Nat → Prop) (w : World) (h : SrvAt w G p k s) :
    Calls Try.prog 26 #[.pointer (some ⟨p, 0, none⟩)] w fun en w' => en = .returned (.int .i64 (s.l.length : Int)) ∧ w = w' := by
  obtain ⟨lv, mb, F, h⟩ := h
  obtain ⟨q0, q1, q2⟩ := h.box.three
  obtain ⟨A, cap, rfl⟩ := h.own.slice_
  clear h
  go_enter Try.func26, Try.ntmps26
  go_wp2_with fail
  go_ret
  exact ⟨rfl, rfl⟩

theorem sreport_any (p k : Nat) (s : Sv) (G : Nat → Prop) (w : World) (hl : s.l.length ≤ 900) (h : SrvAt w G p k s) :
    Calls Try.prog 24 #[.pointer (some ⟨p, 0, none⟩)] w (FreshR (rstR s.l) w) := by
  obtain ⟨lv, mb, F, h⟩ := h
  obtain ⟨q0, q1, q2⟩ := h.box.three
  have HO := Lib.hid h.own.rd
  clear h
  go_enter Try.func24, Try.ntmps24
  go_wp2_with fail
  refine (restart_any lv s.l w (by omega) HO.out).mono ?_
  rintro e w1 ⟨v1, rfl, ho1, hb1⟩
  have HO1 := Lib.hid ho1
  have HB1 := Lib.hid hb1
  clear ho1 hb1
  go_wp2_with fail
  go_ret
  exact ⟨_, rfl, HO1.out, HB1.out⟩

def AbortE (G : Nat → Prop) (p k mb : Nat) (s : Sv) (w : World) (e : Ending) (w' : World) : Prop :=
  ∃ G' lv' F', e = .returned (.tuple #[]) ∧ SrvV w' G' p k s lv' mb F' ∧ Fr (fun i => i = p ∨ i = mb) w w' ∧ ∀ i, G' i → G i ∨ w.heap.size ≤ i
set_option maxHeartbeats 1000000 in
theorem sabort_fine (p k : Nat) (c : Int) (s : Sv) (G : Nat → Prop) (lv : Value) (mb : Nat) (F : Int → Bool → Value) (w : World) (hc : wfI c) (hl : s.l.length ≤ 900) (h : SrvV w G p k s lv mb F) :
    Calls Try.prog 51 #[.pointer (some ⟨p, 0, none⟩), .int .i64 c] w (AbortE G p k mb (abtS s c) w) := by
  obtain ⟨q0, q1, q2⟩ := h.box.three
  have HO := Lib.hid h.own.rd
  have HC := Lib.hid hc
  have HH := Lib.hid h
  clear h hc
  go_enter Try.func51, Try.ntmps51
  go_wp2_with fail
  refine (abort_any lv s.l c w (by omega) HO.out).mono ?_
  rintro e w1 ⟨v1, rfl, ho1, hb1⟩
  obtain ⟨A1, cap1, e1⟩ := ho1.slice_
  subst e1
  have HO1 := Lib.hid ho1
  have HB1 := Lib.hid hb1
  have hh1 := HH.out.below' hb1
  obtain ⟨q0, q1, q2⟩ := hh1.box.three
  have z1 := hh1.box.frozen 1
  have HS2 := Lib.hid (hh1.setL (hh1.box.setJ 1 (.slice A1 (abtR s.l c).length cap1)) ((Fr.refl _ w1).thenSet _ _ (.inl rfl)) (ho1.mono (Nat.zero_le _)))
  obtain ⟨m0, m1, m2⟩ := HS2.out.box.three
  have HF1 : Hid (Fr (fun i => i = p ∨ i = mb) w (w1.setCell ⟨p, 1, none⟩ (.slice A1 (abtR s.l c).length cap1))) := (Fr.of_below hb1).thenSet _ _ (.inl (.inl rfl))
  have HGG : Hid (∀ i, (G i ∨ blk (.slice A1 (abtR s.l c).length cap1) = some i) → G i ∨ w.heap.size ≤ i) := fun i hi => hi.elim .inl (fun e => .inr (ho1.blk_lt e).1)
  clear ho1 hb1 hh1
  go_wp2_with (at_delete; refine wpList_delete_mapV rfl _ _ rfl rfl HS2.out.map c true HC.out rfl ?_; intro w3 hm3 hf3; have HM3 := Lib.hid hm3; have HF3 := Lib.hid hf3; clear hm3 hf3)
  go_end0
  exact ⟨_, _, _, rfl, HS2.out.dropM HM3.out HF3.out, HF1.out.trans HF3.out (fun i hi => .inl (.inr hi)), HGG.out⟩
theorem sabort_any (p k : Nat) (c : Int) (s : Sv) (G : Nat → Prop) (w : World) (hc : wfI c) (hl : s.l.length ≤ 900) (h : SrvAt w G p k s) :
    Calls Try.prog 51 #[.pointer (some ⟨p, 0, none⟩), .int .i64 c] w (SvE G p k (abtS s c) (.tuple #[]) w) := by
  obtain ⟨lv, mb, F, h⟩ := h
  refine (sabort_fine p k c s G lv mb F w hc hl h).mono ?_
  rintro e w' ⟨G', lv', F', rfl, h', hf, hg⟩
  exact ⟨G', rfl, ⟨lv', mb, F', h'⟩, hf.weak (fun i hi => .inl (hi.elim (fun e => by rw [e]; exact h.gp) (fun e => by rw [e]; exact h.gm))), hg⟩

end Go.Proofs.Ytncgpojjibojlaa

/- server.Remove, Commit, Begin, Wipe, New: their contracts. -/
namespace Go.Proofs.Ytncgpojjibojlaa
open Go Go.RowKit Go.Sort

theorem rmvS_ok {s : Sv} {c : Int} {m : List Re} (h : rmvR s.l c = (0, m)) : rmvS s c = (0, ⟨s.room, m, upF s.f c false []⟩) := by unfold rmvS; rw [h]; simp
theorem rmvS_no {s : Sv} {c e : Int} {m : List Re} (h : rmvR s.l c = (e, m)) (he : ¬ e = 0) : rmvS s c = (e, s) := by unfold rmvS; rw [h, if_neg he]

set_option maxHeartbeats 1000000 in
theorem sremove_any (p k : Nat) (c : Int) (s : Sv) (G : Nat → Prop) (w : World) (hc : wfI c) (hl : s.l.length ≤ 900) (h : SrvAt w G p k s) :
    Calls Try.prog 52 #[.pointer (some ⟨p, 0, none⟩), .int .i64 c] w (SvE G p k (rmvS s c).2 (.int .i64 (rmvS s c).1) w) := by
  obtain ⟨lv, mb, F, h⟩ := h
  obtain ⟨q0, q1, q2⟩ := h.box.three
  have HO := Lib.hid h.own.rd
  have HC := Lib.hid hc
  have HH := Lib.hid h
  clear h hc
  go_enter Try.func52, Try.ntmps52
  go_wp2_with fail
  refine (remove_any lv s.l c w (by omega) HO.out).mono ?_
  rintro e w1 ⟨v1, rfl, ho1, hb1⟩
  obtain ⟨⟨r, m⟩, hr⟩ : ∃ r, rmvR s.l c = r := ⟨_, rfl⟩
  rw [hr] at ho1 ⊢
  dsimp only at ho1 ⊢
  have HRM := Lib.hid hr
  obtain ⟨A1, cap1, e1⟩ := ho1.slice_
  subst e1
  have HO1 := Lib.hid ho1
  have HB1 := Lib.hid hb1
  have hh1 := HH.out.below' hb1
  have HH1 := Lib.hid hh1
  clear ho1 hb1 hr
  go_wp2_with fail
  refine (stake_any p mb s.room lv A1 m.length cap1 r w1 hh1.box).mono ?_
  clear hh1
  rintro e w2 ⟨rfl, hx2, hf2⟩
  by_cases hr0 : r = 0
  · subst hr0
    rw [rmvS_ok HRM.out]
    rw [if_pos rfl] at hx2
    have HS2 := Lib.hid (HH1.out.setL hx2 hf2 (HO1.out.mono (Nat.zero_le _)))
    have HSP : Hid (StepG G (fun i => G i ∨ blk (.slice A1 m.length cap1) = some i) w w2) :=
      ⟨(Fr.of_below HB1.out).trans hf2 (fun i hi => .inl (by rw [show i = p from hi]; exact HH.out.gp)), fun i hi => hi.elim .inl (fun e => .inr (HO1.out.blk_lt e).1)⟩
    obtain ⟨m0, m1, m2⟩ := hx2.three
    clear hx2 hf2
    go_wp2_with (at_delete; refine wpList_delete_mapV rfl _ _ rfl rfl HS2.out.map c false HC.out rfl ?_; intro w3 hm3 hf3; have HM3 := Lib.hid hm3; have HF3 := Lib.hid hf3; clear hm3 hf3)
    go_ret
    rw [rmvS_ok HRM.out]
    exact ⟨_, rfl, ⟨_, _, _, HS2.out.dropM HM3.out HF3.out⟩, HSP.out.trans ⟨HF3.out.weak (fun i hi => .inl (by rw [show i = mb from hi]; exact HS2.out.gm)), fun i hi => .inl hi⟩⟩
  · have hr' : (r == 0) = false := by simpa using hr0
    rw [if_neg hr0] at hx2
    have HN := Lib.hid (rmvS_no HRM.out hr0)
    have HX2 := Lib.hid hx2
    have HF2 := Lib.hid hf2
    clear hr0 hx2 hf2
    go_wp2_with fail
    go_ret
    rw [HN.out]
    have hf : Fr (fun i => i = p) w w2 := (Fr.of_below (S := fun i => i = p) HB1.out).trans HF2.out (fun i hi => .inl hi)
    refine ⟨G, rfl, ⟨lv, mb, F, HX2.out, HH1.out.own.fr HF2.out HH1.out.ne_lp, HH1.out.map.fr HF2.out (fun e => HH1.out.ne e.symm), fun c t hc => (HH1.out.row c t hc).fr HF2.out (HH1.out.ne_fp hc), HH1.out.sep, HH1.out.gp, HH1.out.gm, HH1.out.gl, HH1.out.gf, fun i hi => Nat.lt_of_lt_of_le (HH1.out.lt i hi) HF2.out.size⟩, hf.weak (fun i hi => .inl (by rw [show i = p from hi]; exact HH.out.gp)), fun i hi => .inl hi⟩

theorem swipe_any (p k : Nat) (s : Sv) (G : Nat → Prop) (w : World) (h : SrvAt w G p k s) :
    Calls Try.prog 47 #[.pointer (some ⟨p, 0, none⟩)] w (SvE G p k (wipeS s) (.tuple #[]) w) := by
  obtain ⟨lv, mb, F, h⟩ := h
  obtain ⟨q0, q1, q2⟩ := h.box.three
  have z1 := h.box.frozen 1
  have HH := Lib.hid h
  have HS2 := Lib.hid (h.setL (l := []) (h.box.setJ 1 (.slice none 0 0)) ((Fr.refl _ w).thenSet _ _ (.inl rfl)) (Own.nil_ w 0 52 5))
  have hf2 : Fr (fun i => i = p) w (w.setCell ⟨p, 1, none⟩ (.slice none 0 0)) := (Fr.refl _ w).thenSet _ _ (.inl rfl)
  have HF2 := Lib.hid hf2
  clear hf2
  obtain ⟨m0, m1, m2⟩ := HS2.out.box.three
  clear h
  go_enter Try.func47, Try.ntmps47
  go_wp2_with (refine wpList_clear_mapV rfl _ rfl rfl HS2.out.map ?_; intro w3 hm3 hf3; have HM3 := Lib.hid hm3; have HF3 := Lib.hid hf3; clear hm3 hf3)
  go_end0
  have hv : SrvV w3 (fun i => G i ∨ blk nilS = some i) p k (wipeS s) (.slice none 0 0) mb (fun _ _ => nilS) :=
    (HS2.out.setM (f' := fun _ _ => []) HM3.out HF3.out (fun c t hc => Own.nil_ _ _ _ _) (fun c t d u _ _ _ g hg => by cases hg) (fun _ h => h) (fun c t _ g hg => by cases hg) HS2.out.lt).mono (Nat.zero_le _)
  refine ⟨_, rfl, ⟨_, _, _, hv⟩, ⟨(HF2.out.weak (T := G) (fun i hi => .inl (by rw [show i = p from hi]; exact HH.out.gp))).trans HF3.out (fun i hi => .inl (by rw [show i = mb from hi]; exact HH.out.gm)), fun i hi => hi.elim .inl (fun e => by cases e)⟩⟩

theorem snew_at (z room : Int) (w : World) (hz : z = min (max room 0) 16) :
    SrvAt ((w.alloc (.map #[] 0)).alloc (.cells #[.int .i64 z, .slice none 0 0, .map (some w.heap.size)] 82)) (fun i => i = w.heap.size ∨ i = w.heap.size + 1) (w.heap.size + 1) 0 (newS room) := by
  refine ⟨.slice none 0 0, w.heap.size, fun _ _ => nilS, ?_, Own.nil_ _ _ _ _, ?_, fun _ _ _ => Own.nil_ _ _ _ _, fun _ _ _ _ _ _ _ g hg => by (cases hg), .inr rfl, .inl rfl, fun g hg => by (cases hg), fun _ _ _ g hg => by (cases hg), fun i hi => by (simp; omega)⟩
  · have := Bx.new (w.alloc (.map #[] 0)) 82 [.int .i64 z, .slice none 0 0, .map (some w.heap.size)]
    rw [World.size_alloc] at this
    show Bx _ _ _ [.int .i64 (min (max room 0) 16), _, _]
    rw [← hz]
    exact this
  · exact (MapV.new w).below' (below_one _ _)

def NewE (room : Int) (w : World) (e : Ending) (w' : World) : Prop := ∃ p G, e = .returned (.pointer (some ⟨p, 0, none⟩)) ∧ SrvAt w' G p 0 (newS room) ∧ (∀ i, G i → w.heap.size ≤ i) ∧ Below w.heap.size w w'
theorem snew_any (room : Int) (w : World) :
    Calls Try.prog 17 #[.int .i64 room] w (NewE room w) := by
  have hmm := @run_makeMap Try.prog
  have hb := fun o => below2 w (.map #[] 0) o
  have HB := Lib.hid hb
  clear hb
  go_enter Try.func17, Try.ntmps17
  go_wp2_with fail
  · go_ret
    exact ⟨_, _, rfl, snew_at 0 room w (by omega), fun i hi => by (rcases hi with h1 | h1 <;> omega), HB.out _⟩
  · go_ret
    exact ⟨_, _, rfl, snew_at 16 room w (by omega), fun i hi => by (rcases hi with h1 | h1 <;> omega), HB.out _⟩
  · go_ret
    exact ⟨_, _, rfl, snew_at room room w (by omega), fun i hi => by (rcases hi with h1 | h1 <;> omega), HB.out _⟩

end Go.Proofs.Ytncgpojjibojlaa

/- server.Commit: its contract. -/
namespace Go.Proofs.Ytncgpojjibojlaa
open Go Go.RowKit Go.Sort

theorem cmtS_ok {s : Sv} {c v : Int} {m : List Re} (h : cmtR s.l c v = (0, m)) : cmtS s c v = (0, ⟨s.room, m, upF (upF s.f c false (s.f c true)) c true []⟩) := by unfold cmtS; rw [h]; simp
theorem cmtS_no {s : Sv} {c v e : Int} {m : List Re} (h : cmtR s.l c v = (e, m)) (he : ¬ e = 0) : cmtS s c v = (e, s) := by unfold cmtS; rw [h, if_neg he]
/-- The server as it was, its box written with what it held. -/
theorem SrvV.same {w w' : World} {G : Nat → Prop} {p k : Nat} {s : Sv} {lv : Value} {mb : Nat} {F : Int → Bool → Value} (h : SrvV w G p k s lv mb F) (hb : Bx w' p 82 [.int .i64 s.room, lv, .map (some mb)]) (hf : Fr (fun i => i = p) w w') : SrvV w' G p k s lv mb F :=
  ⟨hb, h.own.fr hf h.ne_lp, h.map.fr hf (fun e => h.ne e.symm), fun c t hc => (h.row c t hc).fr hf (h.ne_fp hc), h.sep, h.gp, h.gm, h.gl, h.gf, fun i hi => Nat.lt_of_lt_of_le (h.lt i hi) hf.size⟩
/-- What was being installed is held now. -/
theorem SrvV.moveM {w w' : World} {G : Nat → Prop} {p k : Nat} {s : Sv} {lv : Value} {mb : Nat} {F : Int → Bool → Value} (h : SrvV w G p k s lv mb F) {k' : Nat} {c : Int} (hc : wfI c) (hm : MapV w' mb k' (upF (upF F c false (F c true)) c true nilS)) (hf : Fr (fun i => i = mb) w w') :
    SrvV w' G p k' ⟨s.room, s.l, upF (upF s.f c false (s.f c true)) c true []⟩ lv mb (upF (upF F c false (F c true)) c true nilS) := by
  have key : ∀ d u, wfI d → ∃ d0 u0, wfI d0 ∧ ((upF (upF F c false (F c true)) c true nilS d u = F d0 u0 ∧ upF (upF s.f c false (s.f c true)) c true [] d u = s.f d0 u0 ∧ ((d = c ∧ u = false ∧ d0 = c ∧ u0 = true) ∨ (d0 = d ∧ u0 = u ∧ d ≠ c))) ∨ (upF (upF F c false (F c true)) c true nilS d u = nilS ∧ upF (upF s.f c false (s.f c true)) c true [] d u = [])) := by
    intro d u hd
    by_cases e : d = c
    · subst e
      cases u with
      | true => exact ⟨d, true, hd, .inr ⟨upF_same _ _ _ _, upF_same _ _ _ _⟩⟩
      | false =>
        refine ⟨d, true, hd, .inl ⟨?_, ?_, .inl ⟨rfl, rfl, rfl, rfl⟩⟩⟩
        · rw [upF_other _ _ (by simp), upF_same]
        · rw [upF_other _ _ (by simp), upF_same]
    · refine ⟨d, u, hd, .inl ⟨?_, ?_, .inr ⟨rfl, rfl, e⟩⟩⟩
      · rw [upF_other _ _ (fun h => e h.1), upF_other _ _ (fun h => e h.1)]
      · rw [upF_other _ _ (fun h => e h.1), upF_other _ _ (fun h => e h.1)]
  refine h.setM hm hf (fun d u hd => ?_) (fun d u d' u' hd hd' hne g hg hg' => ?_) (fun _ h => h) (fun d u hd g hg => ?_) h.lt
  · obtain ⟨d0, u0, h0, ⟨h1, h2, _⟩ | ⟨h1, h2⟩⟩ := key d u hd
    · rw [h1, h2]; exact h.row d0 u0 h0
    · rw [h1, h2]; exact Own.nil_ _ _ _ _
  · obtain ⟨d0, u0, h0, ⟨h1, _, h3⟩ | ⟨h1, _⟩⟩ := key d u hd
    · obtain ⟨d1, u1, h4, ⟨h5, _, h6⟩ | ⟨h5, _⟩⟩ := key d' u' hd'
      · rw [h1] at hg
        rw [h5] at hg'
        refine h.sep d0 u0 d1 u1 h0 h4 (fun e => ?_) g hg hg'
        obtain ⟨e1, e2⟩ := e
        subst e1 e2
        rcases h3 with ⟨a1, a2, a3, a4⟩ | ⟨a1, a2, a3⟩ <;> rcases h6 with ⟨b1, b2, b3, b4⟩ | ⟨b1, b2, b3⟩
        · exact hne ⟨a1.trans b1.symm, a2.trans b2.symm⟩
        · exact b3 (b1.symm.trans a3)
        · exact a3 (a1.symm.trans b3)
        · exact hne ⟨a1.symm.trans b1, a2.symm.trans b2⟩
      · rw [h5] at hg'
        cases hg'
    · rw [h1] at hg
      cases hg
  · obtain ⟨d0, u0, h0, ⟨h1, _, _⟩ | ⟨h1, _⟩⟩ := key d u hd
    · rw [h1] at hg; exact h.gf d0 u0 h0 g hg
    · rw [h1] at hg; cases hg

set_option maxHeartbeats 2000000 in
theorem scommit_any (p k : Nat) (c u : Int) (s : Sv) (G : Nat → Prop) (w : World) (hc : wfI c) (hl : s.l.length ≤ 800) (hk : k < 1000) (h : SrvAt w G p k s) :
    Calls Try.prog 45 #[.pointer (some ⟨p, 0, none⟩), .int .i64 c, .int .i64 u] w (SvE G p (k + 1) (cmtS s c u).2 (.int .i64 (cmtS s c u).1) w) := by
  obtain ⟨lv, mb, F, h⟩ := h
  obtain ⟨q0, q1, q2⟩ := h.box.three
  have HO := Lib.hid h.own.rd
  have HC := Lib.hid hc
  have HH := Lib.hid h
  clear h hc
  go_enter Try.func45, Try.ntmps45
  go_wp2_with fail
  refine (commit_any lv s.l c u w (by omega) HO.out).mono ?_
  rintro e w1 ⟨v1, rfl, ho1, hb1⟩
  obtain ⟨⟨r, m⟩, hr⟩ : ∃ r, cmtR s.l c u = r := ⟨_, rfl⟩
  rw [hr] at ho1 ⊢
  dsimp only at ho1 ⊢
  have HRM := Lib.hid hr
  obtain ⟨A1, cap1, e1⟩ := ho1.slice_
  subst e1
  have HO1 := Lib.hid ho1
  have HB1 := Lib.hid hb1
  have hh1 := HH.out.below' hb1
  have HH1 := Lib.hid hh1
  clear ho1 hb1 hr
  go_wp2_with fail
  refine (stake_any p mb s.room lv A1 m.length cap1 r w1 hh1.box).mono ?_
  clear hh1
  rintro e w2 ⟨rfl, hx2, hf2⟩
  by_cases hr0 : r = 0
  · subst hr0
    rw [if_pos rfl] at hx2
    have HS2 := Lib.hid (HH1.out.setL hx2 hf2 (HO1.out.mono (Nat.zero_le _)))
    have HSP : Hid (StepG G (fun i => G i ∨ blk (.slice A1 m.length cap1) = some i) w w2) :=
      ⟨(Fr.of_below HB1.out).trans hf2 (fun i hi => .inl (by rw [show i = p from hi]; exact HH.out.gp)), fun i hi => hi.elim .inl (fun e => .inr (HO1.out.blk_lt e).1)⟩
    obtain ⟨m0, m1, m2⟩ := hx2.three
    have hmd : MapV w2.drew mb k F := HS2.out.map.keep rfl
    have hlk := hmd.run_lookup c true HC.out
    obtain ⟨w3, hst, hm3, hf3⟩ := hmd.run_store (by unfold maxLen; omega) c false HC.out (F c true)
    unfold plV at hlk hst
    have HF3 : Hid (Fr (fun i => i = mb) w2 w3) := (Fr.drew w2 _).trans hf3 (fun _ h => .inl h)
    have HM3 := Lib.hid hm3
    have hx3 := (HF3.out.block p hx2.lt HS2.out.ne).trans hx2
    have n2 : w3.cell? ⟨p, 2, none⟩ = some (.map (some mb)) := (Bx.three hx3).2.2
    obtain ⟨vt, hvt⟩ : ∃ v, F c true = v := ⟨_, rfl⟩
    rw [hvt] at hlk hst
    have HVT := Lib.hid hvt
    clear hx2 hf2 hmd hm3 hf3 hvt hx3
    go_wp2_with fail
    go_region_held3 (fun w' => w'.cell? ⟨p, 2, none⟩ = some (.map (some mb))) (first | exact m2 | exact n2 | go_keep) (fail)
    clear hst hlk
    go_wp2_with (at_delete; refine wpList_delete_mapV rfl _ _ rfl rfl HM3.out c true HC.out rfl ?_; intro w4 hm4 hf4; have HM4 := Lib.hid hm4; have HF4 := Lib.hid (HF3.out.trans hf4 (fun _ h => .inl h)); clear hm4 hf4)
    go_ret
    rw [cmtS_ok HRM.out]
    exact ⟨_, rfl, ⟨_, _, _, HS2.out.moveM HC.out HM4.out HF4.out⟩, HSP.out.trans ⟨HF4.out.weak (fun i hi => .inl (by rw [show i = mb from hi]; exact HS2.out.gm)), fun i hi => .inl hi⟩⟩
  · have hr' : (r == 0) = false := by simpa using hr0
    rw [if_neg hr0] at hx2
    have HN := Lib.hid (cmtS_no HRM.out hr0)
    have HX2 := Lib.hid hx2
    have HF2 := Lib.hid hf2
    clear hr0 hx2 hf2
    go_wp2_with fail
    go_ret
    rw [HN.out]
    have hf : Fr (fun i => i = p) w w2 := (Fr.of_below (S := fun i => i = p) HB1.out).trans HF2.out (fun i hi => .inl hi)
    exact ⟨G, rfl, ⟨lv, mb, F, (HH1.out.same HX2.out HF2.out).mono (Nat.le_succ k)⟩, hf.weak (fun i hi => .inl (by rw [show i = p from hi]; exact HH.out.gp)), fun i hi => .inl hi⟩

end Go.Proofs.Ytncgpojjibojlaa

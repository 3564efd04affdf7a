/- A box: a block of a struct's cells that the call itself has laid; a store of a whole struct into it. -/
import Derived.Test.YtncgpojjibojlaaGaq
import Derived.Test.YtncgpojjibojlaaBaseq
namespace Go.Proofs.Ytncgpojjibojlaa
open Go Go.RowKit

theorem below2 (w : World) (o o' : Obj) : Below w.heap.size w ((w.alloc o).alloc o') := ((Below.refl _ _).alloc (Nat.le_refl _) o).alloc (by simp) o'
theorem below3 (w : World) (o o' o'' : Obj) : Below w.heap.size w (((w.alloc o).alloc o').alloc o'') := (below2 w o o').alloc (by simp; omega) o''
/-- Block B holds these cells, of type t, and may be written. -/
def Bx (w : World) (B : Nat) (t : TypeId) (cs : List Value) : Prop := w.heap[B]? = some (.cells cs.toArray t (0, 0))

section
variable {w w' : World} {B : Nat} {t : TypeId} {cs : List Value} {a b c d e : Value}
theorem Bx.lt (h : Bx w B t cs) : B < w.heap.size := (Array.getElem?_eq_some_iff.1 h).1
theorem Bx.new (w : World) (t : TypeId) (cs : List Value) : Bx (w.alloc (.cells cs.toArray t)) w.heap.size t cs := heap_alloc_new w _
theorem Bx.cell (h : Bx w B t cs) (j : Nat) : w.cell? ⟨B, j, none⟩ = cs[j]? := by rw [cell_of_row w B j _ _ _ h]; simp
theorem Bx.frozen (h : Bx w B t cs) (j : Nat) : w.frozen? ⟨B, j, none⟩ = false := by simp [World.frozen?, show w.heap[B]? = _ from h]
theorem Bx.below {b0 : Nat} (h : Bx w B t cs) (hb : Below b0 w w') (hB : B < b0) : Bx w' B t cs := (hb.block B hB).trans h
theorem Bx.below' (h : Bx w B t cs) (hb : Below w.heap.size w w') : Bx w' B t cs := h.below hb h.lt
theorem Bx.alloc (h : Bx w B t cs) (o : Obj) : Bx (w.alloc o) B t cs := (Below.heap_alloc _ _ _ h.lt).trans h
theorem Bx.drewN (h : Bx w B t cs) (n : Nat) : Bx (w.drewN n) B t cs := h
theorem Bx.fr {S : Nat → Prop} (h : Bx w B t cs) (hf : Fr S w w') (hn : ¬ S B) : Bx w' B t cs := (hf.block B h.lt hn).trans h
theorem Bx.two (h : Bx w B t [a, b]) : w.cell? ⟨B, 0, none⟩ = some a ∧ w.cell? ⟨B, 1, none⟩ = some b := ⟨h.cell 0, h.cell 1⟩
theorem Bx.three (h : Bx w B t [a, b, c]) : w.cell? ⟨B, 0, none⟩ = some a ∧ w.cell? ⟨B, 1, none⟩ = some b ∧ w.cell? ⟨B, 2, none⟩ = some c := ⟨h.cell 0, h.cell 1, h.cell 2⟩
theorem Bx.four (h : Bx w B t [a, b, c, d]) : w.cell? ⟨B, 0, none⟩ = some a ∧ w.cell? ⟨B, 1, none⟩ = some b ∧ w.cell? ⟨B, 2, none⟩ = some c ∧ w.cell? ⟨B, 3, none⟩ = some d := ⟨h.cell 0, h.cell 1, h.cell 2, h.cell 3⟩
theorem Bx.five (h : Bx w B t [a, b, c, d, e]) : w.cell? ⟨B, 0, none⟩ = some a ∧ w.cell? ⟨B, 1, none⟩ = some b ∧ w.cell? ⟨B, 2, none⟩ = some c ∧ w.cell? ⟨B, 3, none⟩ = some d ∧ w.cell? ⟨B, 4, none⟩ = some e := ⟨h.cell 0, h.cell 1, h.cell 2, h.cell 3, h.cell 4⟩
end

theorem heap_setCells (B : Nat) (t : TypeId) : ∀ (cs : List Value) (w : World) (o : Nat) (old : List Value), Bx w B t old → Bx (w.setCells B o cs) B t (setL old o cs)
  | [], _, _, _, h => h
  | c :: cs, w, o, old, h => by
    refine heap_setCells B t cs _ (o + 1) (old.set o c) ?_
    have h' : w.heap[B]? = some (.cells old.toArray t (0, 0)) := h
    show (w.setCell ⟨B, o, none⟩ c).heap[B]? = _
    simp [World.setCell, Array.getElem?_modify, h']
theorem setL_all (cs old : List Value) (h : old.length = cs.length) : setL old 0 cs = cs := by
  apply List.ext_getElem?
  intro p
  rw [setL_get]
  by_cases hp : p < cs.length
  · rw [if_pos (by omega), Nat.sub_zero]
  · rw [if_neg (by omega), List.getElem?_eq_none (by omega), List.getElem?_eq_none (by omega)]

/-- A store of a whole struct into a box. -/
theorem wpList_store_box {P : Program} {w : World} {ops : Array Oper} {rest : List Oper} {op : Oper} {a : Act} {Q : Exit → Act → World → Prop} (hgd : op.guard = none) (ty : TypeId) (x y : Operand) (ho : op.op = .store ty x y)
    (B : Nat) (t : TypeId) (old cells : List Value) (hx : a.eval x = .pointer (some ⟨B, 0, none⟩)) (hb : Bx w B t old) (hy : a.eval y = .agg cells.toArray) (hs : old.length = cells.length)
    (hi : (P.info? ty).map (·.size) = some cells.length) (h1 : cells.toArray.all (·.oneCell') = true)
    (h : ∀ w', Bx w' B t cells → Fr (fun k => k = B) w w' → wpList P ops Q rest (a.put op.dst undef) w') : wpList P ops Q (op :: rest) a w := by
  refine wpList_store_mid hgd ty x y ho B 0 cells.toArray hx hy (fun j hj => ?_) (by simpa using hi) h1 (h _ ?_ (Fr.setCells_ _ _ _))
  · rw [Nat.zero_add]
    refine ⟨?_, hb.frozen j⟩
    rw [hb.cell, List.getElem?_eq_getElem (by simp at hj; omega)]
    rfl
  · have := heap_setCells B t cells w 0 old hb
    rw [setL_all cells old hs] at this
    simpa using this

end Go.Proofs.Ytncgpojjibojlaa

/- Regions that draw their order: moves that float, a quiet head, some forced operations (calls, appends), then a quiet tail. -/
namespace Go.Proofs.Ytncgpojjibojlaa
open Go Go.RowKit Go.Sort

section
variable {P : Program} {ops : Array Oper} {md : Region.Mode} {C : World → Prop}

/-- Behind the forced operations: the rest is quiet, in the world that has come of them. -/
def thenQuiet (P : Program) (ops : Array Oper) (tail : List Oper) (Q : Exit → Act → World → Prop) : Exit → Act → World → Prop
  | .normal, a, w => wpQuiet P ops (fun w' => ∃ n, w' = w.drewN n) (fun a' => ∀ w', (∃ n, w' = w.drewN n) → Q .normal a' w') tail a
  | e, a, w => Q e a w
theorem thenQuiet_normal {tail : List Oper} {Q : Exit → Act → World → Prop} {a : Act} {w : World} (h : wpQuiet P ops (fun w' => ∃ n, w' = w.drewN n) (fun a' => ∀ w', (∃ n, w' = w.drewN n) → Q .normal a' w') tail a) : thenQuiet P ops tail Q .normal a w := h

def seqLexB (md : Region.Mode) (ops : Array Oper) : Nat → Nat → Array Bool → Bool
  | 0, k, listed => Region.lexFrom md ops (ops.size - k) k listed
  | f + 1, k, listed => decide (Region.ready md ops listed = [k]) && seqLexB md ops f (k + 1) (listed.setIfInBounds k true)

theorem wpAny_of_seqLex {Q : Exit → Act → World → Prop} (hsel : Region.noSelect ops = true) : ∀ (l : List Oper) (k : Nat) (listed : Array Bool) (a : Act) (w : World), k + l.length ≤ ops.size → (∀ j, j < l.length → l[j]? = ops[k + j]?) →
    seqLexB md ops l.length k listed = true → wpList P ops (thenQuiet P ops (ops.toList.drop (k + l.length)) Q) l a w → wpAny P md ops Q (ops.size - k) listed a w
  | [], k, listed, a, w, hk, _, hB, h => by
    have h' : wpQuiet P ops (fun w' => ∃ n, w' = w.drewN n) (fun a' => ∀ w', (∃ n, w' = w.drewN n) → Q .normal a' w') (ops.toList.drop k) a := h
    have hl : (ops.toList.drop k).length = ops.size - k := by simp
    have := wpAnyQ_lex (C := fun w' => ∃ n, w' = w.drewN n) (md := md) hsel (ops.toList.drop k) k listed a (fun j => by simp [List.getElem?_drop]) (by rw [hl]; exact hB) h'
    rw [hl] at this
    exact wpAny_of_quiet (Q := fun a' => ∀ w', (∃ n, w' = w.drewN n) → Q .normal a' w') (fun _ w' hw' h => h w' hw') _ _ _ _ ⟨0, rfl⟩ this
  | o :: l, k, listed, a, w, hk, hl, hB, h => by
    have h0 : ops[k]? = some o := by simpa using (hl 0 (by simp)).symm
    simp only [List.length_cons, seqLexB, Bool.and_eq_true, decide_eq_true_eq] at hB hk
    rw [show ops.size - k = (ops.size - (k + 1)) + 1 by omega]
    refine ⟨fun h1 => (by rw [hB.1] at h1; cases h1), fun i hi => ?_⟩
    rw [hB.1] at hi
    have hik : i = k := by simpa using hi
    subst hik
    have hw : wpOp P ops (thenQuiet P ops (ops.toList.drop (i + (l.length + 1))) Q) i (wpList P ops (thenQuiet P ops (ops.toList.drop (i + (l.length + 1))) Q) l) a w := by unfold wpOp; simp only [h0]; exact h
    have hw2 := wpOp_mono (K' := wpAny P md ops Q (ops.size - (i + 1)) (listed.setIfInBounds i true)) (fun a' w' h' => wpAny_of_seqLex hsel l (i + 1) _ a' w' (by omega) (fun j hj => by have := hl (j + 1) (by simp; omega); simpa [Nat.add_assoc, Nat.add_comm 1 j] using this) hB.2 (by rw [show i + 1 + l.length = i + (l.length + 1) by omega]; exact h')) hw
    exact hw2

def downB (md : Region.Mode) (ops : Array Oper) (n : Nat) : Bool :=
  (List.range ops.size).all fun t => decide (t ≤ n) || (List.range t).any fun u => decide (n ≤ u) && Region.waitsFor md ops t u

theorem tail_waitsD {n : Nat} {l0 listed : Array Bool} (hs : sinkP md ops n l0 = true) (hc : downB md ops n = true) (hn : n < ops.size) (inv : HeadInv md ops n listed) (hle : ∀ i, l0.getD i false = true → listed.getD i false = true) :
    ∀ (d i : Nat), n - i = d → i < n → listed.getD i true = false → ∀ t, n ≤ t → t ∉ Region.ready md ops listed := by
  intro d
  induction d using Nat.strongRecOn with
  | _ d ih =>
    intro i hd hi hun t ht hr
    obtain ⟨_, ot, hot, hall⟩ := mem_ready.1 hr
    have htlt : t < ops.size := (Array.getElem?_eq_some_iff.1 hot).1
    by_cases htn : t = n
    · subst htn
      have h0 := List.all_eq_true.1 hs i (List.mem_range.2 hi)
      simp only [Bool.or_eq_true] at h0
      have h1 : (List.range (t + 1)).any (fun j => decide (i < j) && Region.waitsFor md ops j i) = true := by
        rcases h0 with h0 | h0
        · have := hle i h0
          rw [getD_both hun] at this
          cases this
        · exact h0
      obtain ⟨j, hj, hj2⟩ := List.any_eq_true.1 h1
      simp only [Bool.and_eq_true, decide_eq_true_eq] at hj2
      obtain ⟨oj, hoj, e, he, hb, hon⟩ := Region.waitsFor_spec hj2.2
      have hjle : j ≤ t := by have := List.mem_range.1 hj; omega
      by_cases hjt : j = t
      · subst hjt
        have : oj = ot := Option.some.inj (hoj.symm.trans hot)
        subst this
        have h2 := hall e he hb
        rw [hon, getD_both hun] at h2
        cases h2
      · cases hl : listed.getD j false with
        | true =>
          have h2 := inv.closed j oj hoj hl e he hb
          rw [hon, getD_both hun] at h2
          cases h2
        | false =>
          have hjs : j < listed.size := by rw [inv.size]; omega
          exact ih (t - j) (by omega) j rfl (by omega) (getD_in hjs hl) t (Nat.le_refl _) hr
    · have h1 := List.all_eq_true.1 hc t (List.mem_range.2 htlt)
      simp only [Bool.or_eq_true, decide_eq_true_eq] at h1
      rcases h1 with h1 | h1
      · omega
      · obtain ⟨u, hu, hu2⟩ := List.any_eq_true.1 h1
        simp only [Bool.and_eq_true, decide_eq_true_eq] at hu2
        have hut := List.mem_range.1 hu
        obtain ⟨o', ho', e, he, hb, hon⟩ := Region.waitsFor_spec hu2.2
        have : o' = ot := Option.some.inj (ho'.symm.trans hot)
        subst this
        have h2 := hall e he hb
        rw [hon, getD_both (inv.tail u hu2.1 (by omega))] at h2
        cases h2

theorem wpAnyLQ_firstD {n i : Nat} {oi : Oper} {v : Value} {L : Array Bool → Act → Prop} {l0 : Array Bool} (hi : ops[i]? = some oi) (hsel : ∀ (j : Nat) (o : Oper) cs b, ops[j]? = some o → o.op ≠ .select cs b)
    (hs : sinkP md ops n l0 = true) (hc : downB md ops n = true) (hn : n < ops.size) (hin : i < n)
    (hdone : ∀ listed a, L listed a → ∀ j ∈ Region.ready md ops listed, n ≤ j) :
    ∀ (f : Nat) (listed : Array Bool) (a : Act), HeadInv md ops n listed → (∀ i, l0.getD i false = true → listed.getD i false = true) →
      (∀ j oj, ops[j]? = some oj → j ≠ i → listed.getD j true = false → (∀ e ∈ oj.after, Region.binds md e = true → e.on ≠ i) → oi.apart ops oj = true) →
      i ∈ Region.ready md ops listed → YieldsIn P ops C oi v a →
      wpAnyLQ P md ops C n L f (listed.setIfInBounds i true) (a.put oi.dst v) → wpAnyLQ P md ops C n L (f + 1) listed a := by
  intro f
  induction f with
  | zero =>
    intro listed a inv hle _ hr hy H
    have hun := (mem_ready.1 hr).1
    refine ⟨fun h => (by rw [h] at hr; cases hr), fun j hj => ?_⟩
    have hjn : j < n := by
      rcases Nat.lt_or_ge j n with h | h
      · exact h
      · exact absurd hj (tail_waitsD hs hc hn inv hle _ i rfl hin hun j h)
    refine ⟨hjn, ?_⟩
    by_cases hji : j = i
    · subst hji; exact hy.qOp hi H
    · have := hdone _ _ H j (ready_mono hj hji)
      omega
  | succ f ih =>
    intro listed a inv hle hfree hr hy H
    have hun := (mem_ready.1 hr).1
    refine ⟨fun h => (by rw [h] at hr; cases hr), fun j hj => ?_⟩
    have hjn : j < n := by
      rcases Nat.lt_or_ge j n with h | h
      · exact h
      · exact absurd hj (tail_waitsD hs hc hn inv hle _ i rfl hin hun j h)
    refine ⟨hjn, ?_⟩
    by_cases hji : j = i
    · subst hji; exact hy.qOp hi H
    · have h1 := (H.2 j (ready_mono hj hji)).2
      obtain ⟨hjun, oj, hoj, hall⟩ := mem_ready.1 hj
      have hnot : ∀ e ∈ oj.after, Region.binds md e = true → e.on ≠ i := fun e he hb heq => by
        have h1 := hall e he hb
        rw [heq, getD_both hun] at h1
        cases h1
      have h2 := qOp_put hoj (hfree j oj hoj hji hjun hnot) (fun cs b => hsel i oi cs b hi) (fun cs b => hsel j oj cs b hoj) hy h1
      have hfree' : ∀ k ok, ops[k]? = some ok → k ≠ i → (listed.setIfInBounds j true).getD k true = false →
          (∀ e ∈ ok.after, Region.binds md e = true → e.on ≠ i) → oi.apart ops ok = true := fun k ok hk hki hun hno => by
        refine hfree k ok hk hki ?_ hno
        by_cases hjk : j = k
        · subst hjk; exact hjun
        · rw [getD_set_ne true hjk] at hun; exact hun
      refine qOp_mono (fun a' h3 => ih (listed.setIfInBounds j true) a' (inv.set hj hjn) (fun k hk => getD_set_true (hle k hk)) hfree' (ready_mono hr (Ne.symm hji)) h3.1 ?_) h2
      rw [Array.setIfInBounds_comm _ _ hji]
      exact h3.2

def readyAll (md : Region.Mode) (ops : Array Oper) (n : Nat) (listed : Array Bool) : Bool := (Region.ready md ops listed).all fun j => decide (n ≤ j)
def lexHeadD (md : Region.Mode) (ops : Array Oper) (n f : Nat) : List Nat → Array Bool → Bool
  | [], listed => seqLexB md ops f n listed && readyAll md ops n listed
  | k :: H, listed => decide (k < n) && (Region.ready md ops listed).contains k && Region.free md ops listed k && lexHeadD md ops n f H (listed.setIfInBounds k true)

theorem wpAnyLQ_lexD {n f : Nat} {Lq : Act → Prop} {l0 : Array Bool} (hsel : Region.noSelect ops = true) (hs : sinkP md ops n l0 = true) (hc : downB md ops n = true) (hn : n < ops.size) :
    ∀ (H : List Nat) (listed : Array Bool) (a : Act), HeadInv md ops n listed → (∀ i, l0.getD i false = true → listed.getD i false = true) →
    lexHeadD md ops n f H listed = true → wpQuiet P ops C Lq (H.map (ops.getD · default)) a →
    wpAnyLQ P md ops C n (fun listed' a' => (seqLexB md ops f n listed' && readyAll md ops n listed') = true ∧ Lq a') H.length listed a
  | [], listed, a, _, _, hB, h => ⟨hB, h⟩
  | k :: H, listed, a, inv, hle, hB, h => by
    simp only [lexHeadD, Bool.and_eq_true, decide_eq_true_eq] at hB
    obtain ⟨⟨⟨hkn, hr⟩, hf⟩, hB'⟩ := hB
    have h0 : ops[k]? = some (ops.getD k default) := by
      have : k < ops.size := by omega
      simp [this]
    have hr' : k ∈ Region.ready md ops listed := by simpa using hr
    have hst : qOp P ops C k (wpQuiet P ops C Lq (H.map (ops.getD · default))) a := by unfold qOp; simp only [h0]; exact h
    obtain ⟨v, hy, hK⟩ := yieldsIn_of_qOp h0 hst
    exact wpAnyLQ_firstD h0 (Region.noSelect_spec hsel) hs hc hn hkn (fun listed' a' hL j hj => by
        have := hL.1
        simp only [Bool.and_eq_true] at this
        simpa using List.all_eq_true.1 this.2 j hj) H.length listed a inv hle (Region.free_spec h0 hf) hr' hy
      (wpAnyLQ_lexD hsel hs hc hn H _ _ (inv.set hr' hkn) (fun i hi => getD_set_true (hle i hi)) hB' hK)

def midB (ops : Array Oper) (pures : List Nat) (n f : Nat) : Bool :=
  Region.noSelect ops && decide (n + f ≤ ops.size) && decide (n < ops.size) && movesB .any ops pures (Array.replicate ops.size false) && closedB .any ops n (listAll pures (Array.replicate ops.size false)) &&
    sinkP .any ops n (listAll pures (Array.replicate ops.size false)) && downB .any ops n &&
    lexHeadD .any ops n f (pures.foldl List.eraseIdx (List.range n)) (listAll pures (Array.replicate ops.size false)) &&
    decide ((pures.foldl List.eraseIdx (List.range n)).length + pures.length = n)

/-- Moves in 'pures' (the greatest index first) float freely and are taken first; the other operations ahead of number n are quiet in the class C; f operations from n on are forced; the rest is quiet. -/
theorem wp_region_mid {id : Nat} {Q : Exit → Act → World → Prop} {a : Act} {w : World} {l : List Oper} (pures : List Nat) (n f : Nat) (hm : P.follows .mixedOrders = true) (hB : midB l.toArray pures n f = true) (hC : C { w with drawn := w.drawn + 1 })
    (h : wpQuiet P l.toArray C (fun a' => ∀ w', C w' → wpList P l.toArray (thenQuiet P l.toArray (l.drop (n + f)) (noPanic Q)) ((l.drop n).take f) a' w') (pures.foldl List.eraseIdx (l.take n)) (takeMoves l.toArray pures a)) : (Code.region id l.toArray true).wp P Q a w := by
  simp only [midB, Bool.and_eq_true, decide_eq_true_eq] at hB
  obtain ⟨⟨⟨⟨⟨⟨⟨⟨hsel, hnf⟩, hn⟩, hmv⟩, hcl⟩, hs⟩, hc⟩, hlex⟩, hcount⟩ := hB
  have hn' : n < l.length := by simpa using hn
  have hnf' : n + f ≤ l.length := by simpa using hnf
  have hhead : pures.foldl List.eraseIdx (l.take n) = (pures.foldl List.eraseIdx (List.range n)).map (l.toArray.getD · default) := by
    rw [← erases_map]
    congr 1
    apply List.ext_getElem?
    intro j
    rw [List.getElem?_take, List.getElem?_map]
    by_cases hj : j < n
    · have : j < l.length := by omega
      simp [hj, this]
    · simp [hj]
  rw [hhead] at h
  refine wp_noPanic (wp_region_any hm ?_)
  have H := wpAnyLQ_lexD (md := .any) (f := f) (l0 := listAll pures (Array.replicate l.toArray.size false)) hsel hs hc hn _ _ _ (closedB_spec hcl) (fun _ h => h) hlex h
  have hfl : ((l.drop n).take f).length = f := by simp; omega
  have h1 := wpAny_of_headQ (Q' := noPanic Q) (g := l.toArray.size - n) (fun listed a' w' hw' hL => by
    have hb := hL.1
    simp only [Bool.and_eq_true] at hb
    exact wpAny_of_seqLex (md := .any) (Q := noPanic Q) hsel ((l.drop n).take f) n listed a' w' (by rw [hfl]; exact hnf) (fun j hj => by rw [hfl] at hj; simp [List.getElem?_take, List.getElem?_drop, hj]) (by rw [hfl]; exact hb.1) (by rw [hfl]; exact hL.2 w' hw')) _ _ _ _ hC H
  have h2 := wpAny_moves hsel pures _ _ _ _ hmv h1
  have hsz : l.toArray.size = l.length := by simp
  rw [show (List.foldl List.eraseIdx (List.range n) pures).length + (l.toArray.size - n) + pures.length = l.toArray.size by omega] at h2
  exact h2
end

end Go.Proofs.Ytncgpojjibojlaa

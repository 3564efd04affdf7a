/- Regions that draw their order, inside a fence that lets all in (in a loop's round too): a quiet head over a class of worlds, then a forced tail. -/
import Derived.Test.YtncgpojjibojlaaBaseq
import Derived.Test.YtncgpojjibojlaaGfq
import Derived.OrdersIn
import Derived.TacticsIn
import Derived.RangeFuncNested
import Derived.RangeFuncBound
import Derived.RangeFuncCalls
import Derived.RangeFuncLeaves
import Derived.OrdersHeld
import Derived.BigQuiet
import Derived.RangeFuncWrites
import Derived.WalkKit
import Derived.OwnWalkIn
import Derived.TacticsInMore
import Derived.LoopNIn
import Derived.LoopIn
namespace Go.Proofs.Ytncgpojjibojlaa
open Go Go.RowKit Go.Sort

/-- A fence that lets all in. -/
structure Widish (F : Fence) (P : Program) : Prop where
  fn : ∀ f, F.fn f
  depth : F.depth = none
  calls : ∀ {m : Nat} {f : FuncId} {args : Array Value} {w : World} {R : Ending → World → Prop}, Calls P f args w R → CallsIn F m P f args w R
theorem Widish.wide (P : Program) : Widish Fence.wide P := ⟨fun _ => trivial, rfl, fun h => callsIn_wide.2 h⟩
theorem Widish.inRound {F : Fence} {P : Program} (h : Widish F P) (l : Nat) : Widish (F.inRound l) P := ⟨h.fn, h.depth, fun hc => CallsIn.inRound l (h.calls hc)⟩

section
variable {F : Fence} {n : Nat} {P : Program} {ops : Array Oper} {md : Region.Mode} {C : World → Prop}
def noDeferB (ops : Array Oper) : Bool := ops.all (fun o => match o.op with | .defer _ => false | _ => true)
theorem noDefer_spec (h : noDeferB ops = true) {i : Nat} {o : Oper} (hi : ops[i]? = some o) : ∀ c, o.op ≠ .defer c := by
  intro c hc
  unfold noDeferB at h
  rw [Array.all_eq_true] at h
  obtain ⟨hlt, he⟩ := Array.getElem?_eq_some_iff.1 hi
  have := h i hlt
  rw [he, hc] at this
  simp at this
theorem wpIn_of_quietW {o : Oper} {a : Act} {K : Act → Prop} {K' : Act → World → Prop} {Q' : Exit → Act → World → Prop} {w : World} (W : Widish F P) (hnd : ∀ c, o.op ≠ .defer c) (hw : C w) (h : ∀ a w', C w' → K a → K' a w')
    (hh : o.quiet P a C K) : o.wpIn F n P a w K' Q' := by
  obtain ⟨v, h1, h2⟩ := hh
  have h3 := h1 w hw
  unfold Oper.quietAt at h3
  unfold Oper.wpIn
  refine ⟨fun f _ => W.fn f, ?_⟩
  rw [Oper.semAt_eq _ _ _ hnd]
  generalize (execOp a.eval o).run P w = r at *
  cases r with
  | ok x w' =>
    cases x <;> simp only [Oper.quietUpon] at h3 <;> simp only [Oper.uponIn]
    case value u =>
      obtain ⟨e1, e2⟩ := h3
      rw [e1, e2]
      exact h _ _ hw h2
    case skip =>
      obtain ⟨e1, e2⟩ := h3
      rw [e1, ← e2]
      exact h _ _ hw h2
    case enter f args =>
      obtain ⟨e1, hc⟩ := h3
      rw [e1]
      exact ⟨fun hd => by (rw [W.depth] at hd; cases hd), (W.calls hc).mono fun e w'' ⟨he, hw''⟩ => by subst he; exact h _ _ hw'' h2⟩
  | halt x w' => simp only [Oper.quietUpon] at h3
theorem wpOpIn_of_qOp {i : Nat} {a : Act} {K : Act → Prop} {K' : Act → World → Prop} {Q' : Exit → Act → World → Prop} {w : World} (W : Widish F P) (hnd : noDeferB ops = true) (hC : C w) (h : ∀ a w', C w' → K a → K' a w')
    (hh : qOp P ops C i K a) : wpOpIn F n P ops Q' i K' a w := by
  unfold qOp at hh
  unfold wpOpIn
  split
  · rename_i ho; simp only [ho] at hh; exact h _ _ hC hh
  · rename_i o ho
    simp only [ho] at hh
    split
    · rename_i hw; simp only [hw, if_true] at hh; exact wpIn_of_quietW W (noDefer_spec hnd ho) hC h hh
    · rename_i hw; simp only [hw] at hh; exact ⟨fun f _ => W.fn f, h _ _ hC hh⟩
theorem wpAnyIn_of_headQ {m g : Nat} {L : Array Bool → Act → Prop} {Q' : Exit → Act → World → Prop} (W : Widish F P) (hnd : noDeferB ops = true) (hL : ∀ listed a w, C w → L listed a → wpAnyIn F n P md ops Q' g listed a w) :
    ∀ (f : Nat) (listed : Array Bool) (a : Act) (w : World), C w → wpAnyLQ P md ops C m L f listed a → wpAnyIn F n P md ops Q' (f + g) listed a w
  | 0, listed, a, w, hw, h => by rw [Nat.zero_add]; exact hL _ _ _ hw h
  | f + 1, listed, a, w, hw, h => by
    rw [show f + 1 + g = (f + g) + 1 by omega]
    exact ⟨fun h0 => absurd h0 h.1, fun i hi => wpOpIn_of_qOp W hnd hw (fun a' w' hw' h' => wpAnyIn_of_headQ W hnd hL f _ a' w' hw' h') (h.2 i hi).2⟩
theorem wpAnyIn_of_seq {Q' : Exit → Act → World → Prop} : ∀ (l : List Oper) (k : Nat) (listed : Array Bool) (a : Act) (w : World), (∀ j, l[j]? = ops[k + j]?) →
    Region.seqB md ops l.length k listed = true → wpListIn F n P ops Q' l a w → wpAnyIn F n P md ops Q' l.length listed a w
  | [], _, _, _, _, _, hB, h => ⟨by simpa [Region.seqB] using hB, h⟩
  | o :: l, k, listed, a, w, hl, hB, h => by
    have h0 : ops[k]? = some o := by simpa using (hl 0).symm
    simp only [List.length_cons, Region.seqB, Bool.and_eq_true, decide_eq_true_eq] at hB
    refine ⟨fun h1 => (by rw [hB.1] at h1; cases h1), fun i hi => ?_⟩
    rw [hB.1] at hi
    have hik : i = k := by simpa using hi
    subst hik
    have hw : wpOpIn F n P ops Q' i (wpListIn F n P ops Q' l) a w := by unfold wpOpIn; simp only [h0]; exact h
    exact wpOpIn_mono (fun a' w' h' => wpAnyIn_of_seq l (i + 1) _ a' w' (fun j => by have := hl (j + 1); simpa [Nat.add_assoc, Nat.add_comm 1 j] using this) hB.2 h') hw
/-- A quiet head over a class of worlds, then a tail whose order is forced. -/
theorem wpIn_region_quiet_tail {id : Nat} {Q : Exit → Act → World → Prop} {a : Act} {w : World} {l : List Oper} (W : Widish F P) (m : Nat) (hm : P.follows .mixedOrders = true) (hB : Region.lexTailB .any l.toArray m = true) (hnd : noDeferB l.toArray = true) (hC : C { w with drawn := w.drawn + 1 })
    (h : wpQuiet P l.toArray C (fun a' => ∀ w', C w' → wpListIn F n P l.toArray Q (l.drop m) a' w') (l.take m) a) : (Code.region id l.toArray true).wpIn F n P Q a w := by
  simp only [Region.lexTailB, Bool.and_eq_true, decide_eq_true_eq] at hB
  obtain ⟨⟨⟨⟨hsel, hn⟩, hs⟩, hc⟩, hlex⟩ := hB
  have hn' : m < l.length := by simpa using hn
  have htl : (l.take m).length = m := by simp; omega
  have hdl : (l.drop m).length = l.toArray.size - m := by simp
  have inv0 : HeadInv .any l.toArray m (Array.replicate l.toArray.size false) :=
    ⟨by simp, fun j oj _ hl => (by rw [getD_replicate_false] at hl; cases hl), fun t _ ht => getD_in (by simpa using ht) (getD_replicate_false _ _)⟩
  have H := wpAnyLQ_lex (md := .any) (g := l.toArray.size - m) hsel hs hc hn (l.take m) 0 _ a (fun j hj => by
    have hj' : j < m := by rw [htl] at hj; exact hj
    simp [hj']) (by simpa using htl) inv0 (by rw [htl]; exact hlex) h
  refine wpIn_region_any hm ?_
  have := wpAnyIn_of_headQ (F := F) (n := n) (Q' := Q) (g := l.toArray.size - m) W hnd (fun listed a' w' hw' hL => by
    have := wpAnyIn_of_seq (F := F) (n := n) (md := .any) (Q' := Q) (l.drop m) m listed a' w' (fun j => by simp [List.getElem?_drop]) (by rw [hdl]; exact hL.1) (hL.2 w' hw')
    rwa [hdl] at this) _ _ _ _ hC H
  rw [htl, show m + (l.toArray.size - m) = l.toArray.size by omega] at this
  exact this
end

end Go.Proofs.Ytncgpojjibojlaa

/- Regions that draw their order, in a loop's round: operations that yield the same wherever a condition on the world holds are taken first; the others come up one by one. -/
namespace Go.Proofs.Ytncgpojjibojlaa
open Go Go.RowKit Go.Sort

def onlyN (K : Act → World → Prop) : Exit → Act → World → Prop
  | .normal, a, w => K a w
  | _, _, _ => False
section
variable {F : Fence} {n : Nat} {P : Program} {ops : Array Oper} {md : Region.Mode} {S : World → Prop} {Q : Exit → Act → World → Prop}

theorem YieldsIf.wpOpIn_ {i : Nat} {o : Oper} {v : Value} {a : Act} (W : Widish F P) (hnd : noDeferB ops = true) (hi : ops[i]? = some o) (hy : YieldsIf P ops S o v a)
    {K : Act → World → Prop} {w : World} (hS : S w) (h : K (a.put o.dst v) w) : wpOpIn F n P ops Q i K a w := by
  unfold wpOpIn
  simp only [hi]
  rcases hy with ⟨hw, hv⟩ | ⟨hw, rfl⟩
  · simp only [hw, if_true, Oper.wpIn, Oper.semAt_eq _ _ _ (noDefer_spec hnd hi), hv w hS, Oper.uponIn]
    exact ⟨fun f _ => W.fn f, h⟩
  · simp only [hw, Bool.false_eq_true, if_false]
    exact ⟨fun f _ => W.fn f, h⟩
theorem wpOpIn_putIf {j : Nat} {oi oj : Oper} {v : Value} (hnd : noDeferB ops = true) (hj : ops[j]? = some oj) (hap : oi.apart ops oj = true)
    (hsi : ∀ cs b, oi.op ≠ .select cs b) (hsj : ∀ cs b, oj.op ≠ .select cs b)
    (hQ : ∀ c a w, Q (.panic c) (a.put oi.dst v) w → Q (.panic c) a w) {K : Act → World → Prop} {a : Act} {w : World}
    (hy : YieldsIf P ops S oi v a) (h : wpOpIn F n P ops Q j K (a.put oi.dst v) w) :
    wpOpIn F n P ops Q j (fun a' w' => YieldsIf P ops S oi v a' ∧ K (a'.put oi.dst v) w') a w := by
  obtain ⟨h1, h2, h3⟩ := Oper.apart_spec hap
  have keep : ∀ (a : Act), YieldsIf P ops S oi v a → ∀ u, YieldsIf P ops S oi v (a.put oj.dst u) := fun a hy u =>
    hy.of_same (execOp_put oi hsi a oj.dst u h3) (wanted_put oi a oj.dst u h3)
  have keepD : ∀ d, YieldsIf P ops S oi v { a with defers := d :: a.defers } := fun d => hy.of_same rfl rfl
  have hndj := noDefer_spec hnd hj
  unfold wpOpIn at *
  simp only [hj] at *
  rw [wanted_put oj a oi.dst v h1, about_put oj w a oi.dst v h1] at h
  split
  · rename_i hw
    simp only [hw, if_true] at h
    unfold Oper.wpIn at *
    rw [about_put oj w a oi.dst v h1] at h
    refine ⟨h.1, ?_⟩
    have h := h.2
    rw [Oper.semAt_eq _ _ _ hndj, execOp_put oj hsj a oi.dst v h1] at h
    rw [Oper.semAt_eq _ _ _ hndj]
    generalize (execOp a.eval oj).run P w = r at *
    cases r with
    | ok x w' =>
      cases x <;> simp only [Oper.uponIn] at h ⊢
      case value u => exact ⟨keep a hy u, by rw [← Act.put_comm a v u h2]; exact h⟩
      case skip => exact ⟨keep a hy _, by rw [← Act.put_comm a v undef h2]; exact h⟩
      case defer d =>
        refine ⟨keep _ (keepD d) _, ?_⟩
        rw [← Act.put_comm _ v undef h2, ← Act.put_defers]
        exact h
      case enter f args =>
        refine ⟨h.1, CallsIn.mono h.2 fun e w'' he => ?_⟩
        cases e with
        | returned u => exact ⟨keep a hy u, by rw [← Act.put_comm a v u h2]; exact he⟩
        | panicked c => exact hQ _ _ _ he
        | outgrown => exact he
      case row row args => exact ⟨h.1, RowsIn.mono h.2 fun u w'' he => ⟨keep a hy u, by rw [← Act.put_comm a v u h2]; exact he⟩⟩
      case round l f tmps assign body =>
        refine ⟨h.1, RoundIn.mono h.2 fun e w'' he => ?_⟩
        cases e with
        | returned u => exact ⟨keep a hy u, by rw [← Act.put_comm a v u h2]; exact he⟩
        | panicked c => exact hQ _ _ _ he
        | outgrown => exact he
    | halt x w' =>
      cases x <;> simp only [Oper.uponIn] at h ⊢
      case panic u => exact hQ _ _ _ h
  · rename_i hw
    simp only [hw] at h
    exact ⟨h.1, keep a hy _, by rw [← Act.put_comm a v undef h2]; exact h.2⟩

/-- Whatever order is picked from here on, and S holds behind every operation. -/
def wpAnyHIn (F : Fence) (n : Nat) (P : Program) (md : Region.Mode) (ops : Array Oper) (Q : Exit → Act → World → Prop) (S : World → Prop) : Nat → Array Bool → Act → World → Prop
  | 0, listed, a, w => Region.ready md ops listed = [] ∧ Q .normal a w
  | fuel + 1, listed, a, w =>
    (Region.ready md ops listed = [] → Q .normal a w) ∧
    ∀ i ∈ Region.ready md ops listed, wpOpIn F n P ops Q i (fun a' w' => S w' ∧ wpAnyHIn F n P md ops Q S fuel (listed.setIfInBounds i true) a' w') a w
theorem wpAnyIn_of_held : ∀ (fuel : Nat) (listed : Array Bool) (a : Act) (w : World), wpAnyHIn F n P md ops Q S fuel listed a w → wpAnyIn F n P md ops Q fuel listed a w
  | 0, _, _, _, h => h
  | fuel + 1, _, _, _, h => ⟨h.1, fun i hi => wpOpIn_mono (fun a' w' h' => wpAnyIn_of_held fuel _ a' w' h'.2) (h.2 i hi)⟩
theorem wpAnyHIn_first {i : Nat} {oi : Oper} {v : Value} (W : Widish F P) (hnd : noDeferB ops = true) (hi : ops[i]? = some oi) (hsel : ∀ (j : Nat) (o : Oper) cs b, ops[j]? = some o → o.op ≠ .select cs b)
    (hQ : ∀ c a w, Q (.panic c) (a.put oi.dst v) w → Q (.panic c) a w) :
    ∀ (fuel : Nat) (listed : Array Bool) (a : Act) (w : World),
      (∀ j oj, ops[j]? = some oj → j ≠ i → listed.getD j true = false → (∀ e ∈ oj.after, Region.binds md e = true → e.on ≠ i) → oi.apart ops oj = true) →
      i ∈ Region.ready md ops listed → YieldsIf P ops S oi v a → S w →
      wpAnyHIn F n P md ops Q S fuel (listed.setIfInBounds i true) (a.put oi.dst v) w → wpAnyHIn F n P md ops Q S (fuel + 1) listed a w := by
  intro fuel
  induction fuel with
  | zero =>
    intro listed a w _ hr hy hS H
    refine ⟨fun h => (by rw [h] at hr; cases hr), fun j hj => ?_⟩
    by_cases hji : j = i
    · subst hji; exact YieldsIf.wpOpIn_ W hnd hi hy hS ⟨hS, H⟩
    · have := ready_mono hj hji
      rw [H.1] at this
      cases this
  | succ fuel ih =>
    intro listed a w hfree hr hy hS H
    refine ⟨fun h => (by rw [h] at hr; cases hr), fun j hj => ?_⟩
    by_cases hji : j = i
    · subst hji; exact YieldsIf.wpOpIn_ W hnd hi hy hS ⟨hS, H⟩
    · have h1 := H.2 j (ready_mono hj hji)
      obtain ⟨hjun, oj, hoj, hall⟩ := mem_ready.1 hj
      have hnot : ∀ e ∈ oj.after, Region.binds md e = true → e.on ≠ i := fun e he hb heq => by
        have h1 := hall e he hb
        have h0 := (mem_ready.1 hr).1
        rw [heq] at h1
        rcases Nat.lt_or_ge i listed.size with h' | h'
        · simp [h'] at h0 h1; rw [h0] at h1; cases h1
        · simp [Array.getElem?_eq_none h'] at h1
      have h2 := wpOpIn_putIf hnd hoj (hfree j oj hoj hji hjun hnot) (fun cs b => hsel i oi cs b hi) (fun cs b => hsel j oj cs b hoj) hQ hy h1
      have hfree' : ∀ k ok, ops[k]? = some ok → k ≠ i → (listed.setIfInBounds j true).getD k true = false →
          (∀ e ∈ ok.after, Region.binds md e = true → e.on ≠ i) → oi.apart ops ok = true := fun k ok hk hki hun hno => by
        refine hfree k ok hk hki ?_ hno
        by_cases hjk : j = k
        · subst hjk; exact hjun
        · rw [getD_set_ne true hjk] at hun; exact hun
      refine wpOpIn_mono (fun a' w' h3 => ⟨h3.2.1, ih (listed.setIfInBounds j true) a' w' hfree' (ready_mono hr (Ne.symm hji)) h3.1 h3.2.1 ?_⟩) h2
      rw [Array.setIfInBounds_comm _ _ hji]
      exact h3.2.2
/-- Take number i first. -/
theorem wpAnyHIn_take {i : Nat} {oi : Oper} {v : Value} {fuel : Nat} {listed : Array Bool} {a : Act} {w : World} (W : Widish F P) (hnd : noDeferB ops = true) (hi : ops[i]? = some oi)
    (hs : Region.noSelect ops = true) (hf : Region.free md ops listed i = true) (hr : (Region.ready md ops listed).contains i = true)
    (hQ : ∀ c a w, Q (.panic c) (a.put oi.dst v) w → Q (.panic c) a w) (hy : YieldsIf P ops S oi v a) (hS : S w)
    (h : wpAnyHIn F n P md ops Q S fuel (listed.setIfInBounds i true) (a.put oi.dst v) w) : wpAnyHIn F n P md ops Q S (fuel + 1) listed a w :=
  wpAnyHIn_first W hnd hi (Region.noSelect_spec hs) hQ fuel listed a w (Region.free_spec hi hf) (by simpa using hr) hy hS h
theorem wpAnyHIn_takeD {i d : Nat} {oi : Oper} {v : Value} {fuel : Nat} {listed : Array Bool} {a : Act} {w : World} (W : Widish F P) (hnd : noDeferB ops = true) (hi : ops[i]? = some oi) (hd : oi.dst = some d)
    (hs : Region.noSelect ops = true) (hf : Region.free md ops listed i = true) (hr : (Region.ready md ops listed).contains i = true)
    (hQ : ∀ c a w, Q (.panic c) (a.put oi.dst v) w → Q (.panic c) a w) (hy : YieldsIf P ops S oi v a) (hS : S w)
    (h : wpAnyHIn F n P md ops Q S fuel (listed.setIfInBounds i true) ⟨a.tmps.setIfInBounds d v, a.defers⟩ w) : wpAnyHIn F n P md ops Q S (fuel + 1) listed a w :=
  wpAnyHIn_take W hnd hi hs hf hr hQ hy hS (by rw [hd]; exact h)
theorem Oper.wpIn_onlyN {o : Oper} {a : Act} {w : World} {K : Act → World → Prop} {K0 : Act → World → Prop} (h : o.wpIn F n P a w K (onlyN K0)) : o.wpIn F n P a w K Q := by
  unfold Oper.wpIn at *
  refine ⟨h.1, ?_⟩
  have h := h.2
  generalize (o.semAt F.round a.eval).run P w = r at *
  cases r with
  | ok x w' =>
    cases x <;> simp only [Oper.uponIn] at h ⊢ <;>
      first
        | exact h
        | exact ⟨h.1, CallsIn.mono h.2 (fun e w'' he => by cases e <;> first | exact he | exact (he : False).elim | (obtain ⟨_, _, he⟩ := he; exact (he : False).elim))⟩
        | exact ⟨h.1, RoundIn.mono h.2 (fun e w'' he => by cases e <;> first | exact he | exact (he : False).elim | (obtain ⟨_, _, he⟩ := he; exact (he : False).elim))⟩
  | halt x w' => cases x <;> simp only [Oper.uponIn] at h ⊢ <;> first | exact h | exact (h : False).elim
/-- Just one may come up: it is carried out, S is shown anew. -/
theorem wpAnyHIn_one {i : Nat} {o : Oper} {fuel : Nat} {listed : Array Bool} {a : Act} {w : World} (hr : Region.ready md ops listed = [i]) (ho : ops[i]? = some o)
    (h : wpListIn F n P ops (onlyN fun a' w' => S w' ∧ wpAnyHIn F n P md ops Q S fuel (listed.setIfInBounds i true) a' w') [o] a w) : wpAnyHIn F n P md ops Q S (fuel + 1) listed a w := by
  refine ⟨fun h0 => (by rw [hr] at h0; cases h0), fun j hj => ?_⟩
  rw [hr, List.mem_singleton] at hj
  subst hj
  unfold wpOpIn
  rw [ho]
  simp only
  unfold wpListIn at h
  split
  · rename_i hw
    rw [if_pos hw] at h
    exact Oper.wpIn_onlyN h
  · rename_i hw
    rw [if_neg hw] at h
    exact h
theorem wpAnyHIn_done {listed : Array Bool} {a : Act} {w : World} (hr : Region.ready md ops listed = []) (h : Q .normal a w) : ∀ fuel, wpAnyHIn F n P md ops Q S fuel listed a w
  | 0 => ⟨hr, h⟩
  | _ + 1 => ⟨fun _ => h, by rw [hr]; simp⟩
/-- The beginning. -/
theorem wpIn_region_held {id : Nat} {a : Act} {w : World} (hm : P.follows .mixedOrders = true)
    (h : wpAnyHIn F n P .any ops (noPanic Q) S ops.size (Array.replicate ops.size false) a w.drew) : (Code.region id ops true).wpIn F n P Q a w :=
  wpIn_mono (wpIn_region_any hm (wpAnyIn_of_held _ _ _ _ h)) (fun e a w h => by cases e <;> first | exact h | exact h.elim)
end

section
variable {P : Program} {ops : Array Oper} {C : World → Prop} {Q : Act → Prop} {a : Act} {o : Oper} {rest : List Oper}
/-- An operation whose value is known in every world of the class. -/
theorem wpQuiet_known (hg : o.guard = none) (v : Value) (h : ∀ w, C w → (execOp a.eval o).run P w = .ok (.value v) w) (hK : ∀ a', a' = a.put o.dst v → wpQuiet P ops C Q rest a') : wpQuiet P ops C Q (o :: rest) a := by
  refine BigFrame.wpQuiet_want (by simp [Region.wanted, hg]) fun K hK' => ⟨v, fun w hw => ?_, hK' _ (hK _ rfl)⟩
  unfold Oper.quietAt
  rw [h w hw]
  exact ⟨rfl, rfl⟩
end

end Go.Proofs.Ytncgpojjibojlaa

/- server.held and what it hands back: an iterator over the held ones, each with whether it is spoilt. -/
namespace Go.Proofs.Ytncgpojjibojlaa
open Go Go.RowKit Go.Sort
attribute [local go_sem] Oper.semAt_some

/-- What a round of a loop over the held ones keeps: cells of every other type than []int and int; maps that lay below n₀. -/
structure KpT (n₀ : Nat) (W W' : World) : Prop where
  size : W.heap.size ≤ W'.heap.size
  cells : ∀ (i : Nat) (cs : Array Value) (t : TypeId) (fr : Nat × Nat), W.heap[i]? = some (.cells cs t fr) → t ≠ 3 → t ≠ 29 → W'.heap[i]? = W.heap[i]?
  map : ∀ (i : Nat) (es : Array MapEntry) (k : Nat), i < n₀ → W.heap[i]? = some (.map es k) → W'.heap[i]? = W.heap[i]?
theorem KpT.refl (n₀ : Nat) (W : World) : KpT n₀ W W := ⟨Nat.le_refl _, fun _ _ _ _ _ _ _ => rfl, fun _ _ _ _ _ => rfl⟩
theorem KpT.trans {n₀ : Nat} {A B C : World} (h : KpT n₀ A B) (k : KpT n₀ B C) : KpT n₀ A C :=
  ⟨Nat.le_trans h.size k.size, fun i cs t fr h1 h2 h3 => (k.cells i cs t fr ((h.cells i cs t fr h1 h2 h3).trans h1) h2 h3).trans (h.cells i cs t fr h1 h2 h3),
    fun i es c h1 h2 => (k.map i es c h1 ((h.map i es c h1 h2).trans h2)).trans (h.map i es c h1 h2)⟩
theorem KpT.below {n₀ : Nat} {A B : World} (h : Below A.heap.size A B) : KpT n₀ A B :=
  ⟨h.size, fun i _ _ _ h1 _ _ => h.block i (Array.getElem?_eq_some_iff.1 h1).1, fun i _ _ _ h1 => h.block i (Array.getElem?_eq_some_iff.1 h1).1⟩
theorem KpT.putObj {n₀ : Nat} {W : World} {l : Nat} {o : Obj} (o' : Obj) (hn : n₀ ≤ l) (h : W.heap[l]? = some o) (hc : o.isCells = false) : KpT n₀ W (W.putObj l o') := by
  have hg := grownBy_putObj' W l o'
  refine ⟨hg.size, fun i cs t fr h1 _ _ => hg.block i (Array.getElem?_eq_some_iff.1 h1).1 (fun e => ?_), fun i es k hi h1 => hg.block i (Array.getElem?_eq_some_iff.1 h1).1 (fun e => ?_)⟩
  · injection e with e
    subst e
    rw [h] at h1
    injection h1 with h1
    subst h1
    cases hc
  · injection e with e
    omega
section
variable {n₀ : Nat} {W W' : World}
theorem Bx.kp {B : Nat} {t : TypeId} {cs : List Value} (h : Bx W B t cs) (hk : KpT n₀ W W') (h1 : t ≠ 3) (h2 : t ≠ 29) : Bx W' B t cs := (hk.cells B _ t _ h h1 h2).trans h
theorem Own.kp {base size n : Nat} {t : TypeId} {v : Value} {xs : List Value} (h : Own W base t size v n xs) (hk : KpT n₀ W W') (h1 : t ≠ 3) (h2 : t ≠ 29) : Own W' base t size v n xs :=
  h.keep fun g hg => by
    obtain ⟨cur, hc⟩ := h.blk_elem hg
    exact hk.cells g _ t _ hc h1 h2
theorem SrvV.kp {G : Nat → Prop} {p k : Nat} {s : Sv} {lv : Value} {mb : Nat} {F : Int → Bool → Value} (h : SrvV W G p k s lv mb F) (hk : KpT n₀ W W') (hm : mb < n₀) : SrvV W' G p k s lv mb F :=
  ⟨h.box.kp hk (by decide) (by decide), h.own.kp hk (by decide) (by decide), h.map.keep (by
    obtain ⟨es, c, ho⟩ := h.map.obj
    exact hk.map mb es c hm ho), fun c t hc => (h.row c t hc).kp hk (by decide) (by decide), h.sep, h.gp, h.gm, h.gl, h.gf, fun i hi => Nat.lt_of_lt_of_le (h.lt i hi) hk.size⟩
theorem grown_of_below (h : Below W.heap.size W W') : W.grownBy W' none := ⟨h.os, h.tape, h.output, h.size, fun k hk _ => h.block k hk⟩
theorem abide_below {β : Type} {B : Nat} {J : β → World → Prop} (hJ : AbidesFrom B J) {x : β} (h : J x W) (hb : Below W.heap.size W W') : J x W' := hJ x W W' none h (grown_of_below hb) (fun r e => by cases e)
end

abbrev Rb := Re × Bool
def rbE (x : Rb) : Array Value := #[reV x.1, .bool x.2]
def fullS (s : Sv) : List Rb := (rstR s.l).map (fun x => (x, spoiltS s x))
theorem fullS_len (s : Sv) : (fullS s).length = (rstR s.l).length := by simp [fullS]
theorem fullS_take (s : Sv) {j : Nat} (hj : j < (rstR s.l).length) : (fullS s).take (j + 1) = (fullS s).take j ++ [(at_ (rstR s.l) j, spoiltS s (at_ (rstR s.l) j))] := by
  have h := take_at (l := fullS s) (i := j) (by rw [fullS_len]; exact hj)
  have e : at_ (fullS s) j = (at_ (rstR s.l) j, spoiltS s (at_ (rstR s.l) j)) := by
    rw [at_eq (by rw [fullS_len]; exact hj), at_eq hj]
    simp [fullS]
  rw [h, e]

theorem sheld_any (p : Nat) (w : World) :
    Calls Try.prog 61 #[.pointer (some ⟨p, 0, none⟩)] w fun e w' => e = .returned (.func (.func 90) #[] #[.pointer (some ⟨w.heap.size, 0, none⟩)]) ∧ w' = w.alloc (.cells #[.pointer (some ⟨p, 0, none⟩)] 25) := by
  have hmf : ∀ (fn : Fn) (first cap : Array Value) (w : World), (Instr.makeFunc fn first cap).run Try.prog w = .ok (.func fn first cap) w := fun _ _ _ _ => rfl
  go_enter Try.func61, Try.ntmps61
  go_wp2_with fail
  go_ret
  exact ⟨rfl, rfl⟩

end Go.Proofs.Ytncgpojjibojlaa

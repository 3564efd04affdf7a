/- QueueDrains: for every list of needs the law returns true; nothing that was there turns. No condition. -/
import Derived.Test.YtflndnbjdhbppaaQueueDrains
import Derived.Test.YtflndnbjdhbppaaQueueOrderP
namespace Go.Proofs.Ytflndnbjdhbppaa
open Go Go.RowKit Go.ChangeShapes Go.WideShapes Go.ChangeAt Go.Joins

theorem open_needs {H : Type} {enc : TypeId × Value → H} {W : World} {r : Reach} {b0 : Nat} {v : Value} {d : DataW H} {p : List MemPlace} (hv : Value.okWide Try.prog W r b0 22 v) (hlt : ∀ x ∈ p, x.block < W.heap.size) (h : DataW.Trod enc Try.prog W 0 (fun _ => true) true 22 v d p) :
    ∃ l : List Nd, Rd W 3 v l.length (l.flatMap ndC) := by
  refine open_rows ndC 3 (by omega) ndC_len Try.underlying22 Try.cellsNeed (fun n cs y hy hl => ?_) (okWide_slice Try.underlying22 hv) hlt h
  obtain ⟨zs, hzl, hcs, _⟩ := struct_ints Try.underlying27 (by kernel_rfl) Try.cellsNeed (fun j f hj => by
    match j, hj with
    | 0, hj => simp at hj; subst hj; exact Try.underlying3
    | 1, hj => simp at hj; subst hj; exact Try.underlying3
    | 2, hj => simp at hj; subst hj; exact Try.underlying3
    | j + 3, hj => simp at hj) hy
  match zs, hzl with
  | [a, b, c], _ => exact ⟨(a, b, c), hcs⟩

namespace QueueDrains
set_option maxRecDepth 100000 in
theorem lifted (os : Os) (started : os.Started) (H : Type) (enc : TypeId × Value → H) :
    ReturnsInHanded {} Try.checked os 5 .any (Rows.queueDrainsSpec.pre6 enc Try.prog Try.f5 Rows.queueDrainsRow.domain false) (Rows.queueDrainsSpec.post enc Try.prog Try.f5 false true false false) := by
  refine returnsInHanded_of_change (C := Try.checked) Try.own started (by kernel_rfl) Try.func5
    (ChangeSpec.witness6 (enc := enc) (C := Try.checked) false ⟨#[], #[.slice none 0 0], []⟩ 8 (by kernel_rfl) (by kernel_rfl) (by kernel_rfl) (by kernel_rfl)) ?_
  intro W base args ds gs before hval0 hW hcnd _
  have hval : ∀ (j : Nat) t v, Try.f5.params[j]? = some t → args[j]? = some v → Value.okWide Try.prog W .any base t v := hval0
  have hW' := hW
  have hlt : ∀ p ∈ before, p.block < W.heap.size := fun p hp => hW.lt p hp
  obtain ⟨p, q, hA0, hV, rfl, hfz, hnd⟩ := hW
  have hA : DataW.TrodAll enc Try.prog W 0 (fun _ => true) true Try.f5.params.toList args.toList ds p := hA0
  rw [Try.params5] at hA hval
  obtain ⟨v0, d0, rfl, rfl, h0⟩ := trodAll_one hA
  obtain ⟨rfl, rfl⟩ := trodVars_none hV
  obtain ⟨l, hR⟩ := open_needs (hval 0 22 v0 rfl rfl) (fun x hx => hlt x (by simp [hx])) h0
  clear hA0 hval0
  refine (queueDrains_walk v0 l W hR).mono fun e W' ⟨he, hg⟩ => ?_
  subst he
  exact ⟨_, rfl, law_post Try.laidOut (by rw [Try.params5]; exact of_decide_eq_true (by kernel_rfl)) rfl Try.underlying4 rfl hW' ⟨rfl, rfl, rfl⟩ hg⟩

theorem holds : Rows.QueueDrainsSaid :=
  OpenClaim.holds_of_wide 5 Try.f5 rfl rfl rfl rfl rfl rfl rfl ⟨rfl, rfl, rfl, rfl, rfl⟩ rfl rfl rfl rfl rfl (by kernel_rfl) Try.func5 (by kernel_rfl)
    (of_decide_eq_true (by kernel_rfl)) (by unfold Func.isWrapper; rw [if_neg (of_decide_eq_false (by kernel_rfl))]; exact ⟨rfl, rfl⟩)
    (fun os started H enc _ => lifted os started H enc)
end QueueDrains

end Go.Proofs.Ytflndnbjdhbppaa

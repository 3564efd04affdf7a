/- suturelaw17.awake: the chapter's examples hold. -/
import Derived.Test.YtflndnbjdhbppaaTake
namespace Go.Proofs.Ytflndnbjdhbppaa
open Go Go.RowKit

theorem HO_mem {d : List Nd} (h : HO d) {x : Nd} (hx : x ∈ d) : ¬ nlt x (gt d 0) := by
  obtain ⟨k, hk, rfl⟩ := List.mem_iff_getElem.1 hx
  have := HO_min h k hk
  have e : gt d k = d[k] := by simp [gt, hk]
  rw [e] at this
  exact this
theorem gt0_mem {d : List Nd} (h : 0 < d.length) : gt d 0 ∈ d := by
  have e : gt d 0 = d[0] := by simp [gt, h]
  rw [e]
  exact List.getElem_mem h

set_option maxHeartbeats 1000000 in
theorem awake17 (w : World) : Calls Try.prog 13 #[] w fun e w' => e = .returned (.bool true) ∧ Below w.heap.size w w' := by
  go_enter Try.func13, Try.ntmps13
  go_wp2_with fail
  refine (new_any w).mono ?_
  rintro e w1 ⟨rfl, hq1, hb1⟩
  obtain ⟨B, hB⟩ : ∃ B, w.heap.size = B := ⟨_, rfl⟩
  rw [hB] at hq1 ⊢
  go_wp2_with fail
  refine (put_any w1 B B _ [] (1, 0, 2) hq1 (by simp)).mono ?_
  rintro e w2 ⟨rfl, v2, d2, hq2, hp2, hf2, hk2⟩
  go_wp2_with fail
  refine (put_any w2 B B _ d2 (2, 0, 1) hq2 (by rw [hp2.length_eq]; simp)).mono ?_
  rintro e w3 ⟨rfl, v3, d3, hq3, hp3, hf3, hk3⟩
  have hp3' : d3.Perm [(2, 0, 1), (1, 0, 2)] := hp3.trans (List.Perm.cons _ hp2)
  have hl3 : d3.length = 2 := hp3'.length_eq
  go_wp2_with fail
  refine (take_some w3 B B _ d3 hq3 (by omega) (by omega)).mono ?_
  rintro e w4 ⟨rfl, v4, d4, hq4, hp4, hf4, hk4⟩
  have hl4 : d4.length = 1 := by have := hp4.length_eq; simp at this; omega
  have hg : gt d3 0 = (2, 0, 1) := by
    have h1 := HO_mem hq3.2 (hp3'.symm.subset (by simp : ((2, 0, 1) : Nd) ∈ _))
    have h2 := hp3'.subset (gt0_mem (by omega : 0 < d3.length))
    simp at h2
    rcases h2 with h2 | h2
    · exact h2
    · rw [h2] at h1
      exact absurd (by unfold nlt; simp) h1
  rw [hg]
  have H4 := Lib.hid hq4
  have HL4 := Lib.hid hl4
  have HBEL : Hid (Below w.heap.size w w4) := by
    have e1 : w1.heap.size ≥ B + 1 := by have := hq1.1.lt; omega
    have f2 : Below B w1 w2 := hf2.below (by omega) (fun i hi => by
      rcases hi with hi | hi
      · omega
      · simp [blk] at hi)
    have f3 : Below B w2 w3 := hf3.below (by have := hf2.size; omega) (fun i hi => by
      rcases hi with hi | hi
      · omega
      · exact (hq2.1.own.blk_lt hi).1)
    have f4 : Below B w3 w4 := hf4.below (by have := hf2.size; have := hf3.size; omega) (fun i hi => by
      rcases hi with hi | hi
      · omega
      · exact (hq3.1.own.blk_lt hi).1)
    rw [hB] at hb1 ⊢
    exact ((hb1.trans f2).trans f3).trans f4
  clear hq1 hq2 hq3 hq4 hp2 hp3 hp4 hp3' hl3 hl4 hg hf2 hf3 hf4 hk2 hk3 hk4 hb1 hB
  go_wp2_with (first
    | (go_at_call 18; refine (len_any _ B B _ d4 (H4.out.1.below ((Below.refl _ _).alloc (Nat.le_refl _) _)) (by rw [HL4.out]; omega)).mono ?_; rintro e w' ⟨rfl, rfl⟩; rw [HL4.out])
    | (go_at_call 19; refine (urgent_any _ _ _ _ _ _ _).mono ?_; rintro e w5 ⟨rfl, hb5⟩; rw [show urg 9 0 1 0 0 2 = true from rfl]))
  go_ret
  exact ⟨rfl, HBEL.out.trans ((((Below.refl w4.heap.size w4).alloc (Nat.le_refl _) _).trans (hb5.mono (by simp))).mono (by have := HBEL.out.size; omega))⟩

end Go.Proofs.Ytflndnbjdhbppaa

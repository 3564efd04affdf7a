/- (*heap).down: the whole contract. -/
import Derived.Test.YtflndnbjdhbppaaDn
namespace Go.Proofs.Ytflndnbjdhbppaa
open Go Go.RowKit

set_option maxRecDepth 100000 in
/-- With at least one in it. -/
theorem down_any (w : World) (base q : Nat) (v : Value) (d : List Nd) (hd : d.length ≤ 1000) (h0 : 0 < d.length) (hH : HpAt w base q v d) (hI : DnI d 0) :
    Calls Try.prog 37 #[.pointer (some ⟨q, 0, none⟩)] w fun e w' => e = .returned (.tuple #[]) ∧ UpE w base q v d w' := by
  have HH := Lib.hid hH
  have HI := Lib.hid hI
  clear hH hI
  go_enter Try.func37, Try.ntmps37
  go_wp2
  refine wp_scope_jumps 0 (DnJ w base q v d) (fun a _ => 2000 - (intOf (a.tmps.getD 2 undef)).toNat) (rest := Code.skip.seq dnRest) (by kernel_rfl) ?_ ?_
  · go_wp2
    go_step3
    simp only [Exit.then]
    rename_i K hK
    refine hK _ _ (dn_pass w base q v d hd _ ?_ _ _ ?_ ?_)
    · intro a' w'' hdf hE
      exact (show bodyPost Try.prog Try.f37 (fun e w' => e = .returned (.tuple #[]) ∧ UpE w base q v d w') .normal a' w'' from bodyPost_end (results_none rfl _ _ _) hdf ⟨rfl, hE⟩)
    · exact ⟨0, d, ⟨rfl, rfl, rfl, rfl⟩, h0, HI.out, List.Perm.refl _, HH.out, Fr.refl _ _⟩
    · intro a' w'' h
      exact ⟨rfl, h.1⟩
  · intro a w' hJ
    refine wp_seq (wp_skip ?_)
    refine dn_pass w base q v d hd _ ?_ a w' hJ ?_
    · intro a' w'' hdf hE
      exact (show bodyPost Try.prog Try.f37 (fun e w' => e = .returned (.tuple #[]) ∧ UpE w base q v d w') .normal a' w'' from bodyPost_end (results_none rfl _ _ _) hdf ⟨rfl, hE⟩)
    · intro a' w'' h
      exact ⟨rfl, h⟩

set_option maxHeartbeats 1000000 in
set_option maxRecDepth 100000 in
/-- With none in it. -/
theorem down_none (w : World) (q : Nat) (A : Option Addr) (cap : Nat) (hq : w.cell? ⟨q, 0, none⟩ = some (.slice A 0 cap)) :
    Calls Try.prog 37 #[.pointer (some ⟨q, 0, none⟩)] w fun e w' => e = .returned (.tuple #[]) ∧ Below w.heap.size w w' := by
  have i0 : ∀ (x y : Value) (w : World), (Instr.index 83 (.agg #[x, y]) (.int .i64 0)).run Try.prog w = .ok x w := fun _ _ _ => by kernel_rfl
  have i1 : ∀ (x y : Value) (w : World), (Instr.index 83 (.agg #[x, y]) (.int .i64 1)).run Try.prog w = .ok y w := fun _ _ _ => by kernel_rfl
  go_enter Try.func37, Try.ntmps37
  go_wp2
  refine wp_scope_jumps 0 (fun _ _ => False) (fun _ _ => 0) (rest := Code.skip.seq dnRest) (by kernel_rfl) ?_ (fun _ _ h => h.elim)
  go_wp2_with fail
  go_step3
  go_wp2_with fail
  have HQ := Lib.hid hq
  clear hq
  go_loopw [3, 14] (fun s3 s14 wr => ∃ k : Nat, s14 = .int .i64 k ∧ s3 = .int .i64 0 ∧ k ≤ 2 ∧ ∃ n, wr = w.drewN n) (fun _ s14 _ => 2 - (intOf s14).toNat)
  case atStart => exact ⟨0, rfl, rfl, by omega, 0, rfl⟩
  case round =>
    obtain ⟨k, rfl, rfl, hk2, nn, rfl⟩ := hrel
    have hq := HQ.out
    by_cases hk : k < 2
    · obtain ⟨c, hc0, hix⟩ : ∃ c : Nat, 0 < c ∧ ∀ w, (Instr.index 83 (.agg #[.int .i64 1, .int .i64 2]) (.int .i64 k)).run Try.prog w = .ok (.int .i64 c) w := by
        rcases (show k = 0 ∨ k = 1 by omega) with rfl | rfl
        · exact ⟨1, by omega, fun w => i0 _ _ w⟩
        · exact ⟨2, by omega, fun w => i1 _ _ w⟩
      have hk' : (k : Int) < 2 := by omega
      have hcn : decide ((c : Int) < 0) = false := by simp
      clear i0 i1
      go_wp2_with fail
      go_quiet (fail)
      go_wp2_with fail
      go_roundw
      case rel => exact ⟨k + 1, by go_num, rfl, by omega, _, rfl⟩
      case measure => simp [intOf]; omega
    · obtain rfl : k = 2 := by omega
      clear i0 i1
      go_wp2_with fail
      rename_i Q'
      exact (show bodyPost Try.prog Try.f37 (fun e w' => e = .returned (.tuple #[]) ∧ Below w.heap.size w w') .normal _ _ from bodyPost_end (results_none rfl _ _ _) rfl ⟨rfl, below_drewN (Below.refl _ _) _⟩)

end Go.Proofs.Ytflndnbjdhbppaa

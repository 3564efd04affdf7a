/- (*heap).up: the whole contract. -/
import Derived.Test.YtflndnbjdhbppaaUp
namespace Go.Proofs.Ytflndnbjdhbppaa
open Go Go.RowKit

set_option maxRecDepth 100000 in
theorem up_any (w : World) (base q : Nat) (v : Value) (d : List Nd) (hd : d.length ≤ 1000) (h0 : 0 < d.length) (hH : HpAt w base q v d) (hI : UpI d (d.length - 1)) :
    Calls Try.prog 36 #[.pointer (some ⟨q, 0, none⟩)] w fun e w' => e = .returned (.tuple #[]) ∧ UpE w base q v d w' := by
  have hq := hH.c0
  obtain ⟨g, off, cap, hv, hnc, hcm, hbg, hgl, hbk⟩ := hH.own.form h0
  have hlen : Hid (v = .slice (some ⟨g, off, none⟩) d.length cap) := hv
  rw [hv] at hq
  obtain ⟨n, hn⟩ : ∃ n, d.length = n + 1 := ⟨d.length - 1, by omega⟩
  rw [hn] at hq
  have HH := Lib.hid hH
  have HI := Lib.hid hI
  have HN := Lib.hid hn
  have hn1000 : n ≤ 999 := by omega
  clear hH hI hn hv hnc hcm hbg hgl hbk hd h0
  go_enter Try.func36, Try.ntmps36
  go_wp2
  refine wp_scope_jumps 0 (UpJ w base q v d) (fun a _ => (intOf (a.tmps.getD 2 undef)).toNat) (rest := Code.skip.seq upRest) (by kernel_rfl) ?_ ?_
  · go_wp2
    go_step3
    simp only [Exit.then]
    rename_i K hK
    refine hK _ _ (up_pass w base q v d (by have := HN.out; omega) _ ?_ _ _ ?_ ?_)
    · intro a' w'' hdf hE
      exact (show bodyPost Try.prog Try.f36 (fun e w' => e = .returned (.tuple #[]) ∧ UpE w base q v d w') .normal a' w'' from bodyPost_end (results_none rfl _ _ _) hdf ⟨rfl, hE⟩)
    · exact ⟨n, d, ⟨rfl, rfl, rfl, rfl⟩, by have := HI.out; rw [HN.out] at this; exact this, List.Perm.refl _, HH.out, Fr.refl _ _⟩
    · intro a' w'' h
      exact ⟨rfl, h.1⟩
  · intro a w' hJ
    refine wp_seq (wp_skip ?_)
    refine up_pass w base q v d (by have := HN.out; omega) _ ?_ a w' hJ ?_
    · intro a' w'' hdf hE
      exact (show bodyPost Try.prog Try.f36 (fun e w' => e = .returned (.tuple #[]) ∧ UpE w base q v d w') .normal a' w'' from bodyPost_end (results_none rfl _ _ _) hdf ⟨rfl, hE⟩)
    · intro a' w'' h
      exact ⟨rfl, h⟩

end Go.Proofs.Ytflndnbjdhbppaa

/- cmp.Compare and cmp.Or at int: their contracts. -/
import Derived.Test.YtncgpojjibojlaaBaseq
import Derived.Test.YtncgpojjibojlaaChecked
import Derived.WalkLawsBesides
import Derived.BigQuiet
import Derived.Outline
namespace Go.Proofs.Ytncgpojjibojlaa
open Go Go.RowKit

def cmpI (x y : Int) : Int := if x < y then -1 else if y < x then 1 else 0
def orI : List Int → Int
  | [] => 0
  | z :: l => if z = 0 then orI l else z

theorem cmp_any (x y : Int) (w : World) :
    Calls Try.prog 96 #[.int .i64 x, .int .i64 y] w fun e w' => e = .returned (.int .i64 (cmpI x y)) ∧ w = w' := by
  by_cases h1 : x < y
  · go_enter Try.func96, Try.ntmps96
    go_wp2
    go_ret
    exact ⟨by rw [show cmpI x y = -1 by simp [cmpI, h1]]; rfl, rfl⟩
  · by_cases h2 : y < x
    · go_enter Try.func96, Try.ntmps96
      go_wp2
      go_ret
      exact ⟨by rw [show cmpI x y = 1 by simp [cmpI, h1, h2]]; rfl, rfl⟩
    · go_enter Try.func96, Try.ntmps96
      go_wp2
      go_ret
      exact ⟨by rw [show cmpI x y = 0 by unfold cmpI; rw [if_neg (by omega), if_neg (by omega)]]; rfl, rfl⟩

theorem orI_drop (zs : List Int) (k : Nat) (h : ∀ j, j < k → zs.getD j 0 = 0) : orI zs = orI (zs.drop k) := by
  induction k generalizing zs with
  | zero => rfl
  | succ k ih =>
    cases zs with
    | nil => simp
    | cons z l =>
      have h0 := h 0 (by omega)
      simp at h0
      simp only [orI, h0, if_true, List.drop_succ_cons]
      exact ih l (fun j hj => by have := h (j + 1) (by omega); simpa using this)

theorem or_any (b off cap : Nat) (zs : List Int) (w : World) (hz : zs.length ≤ 1000)
    (hc : ∀ j, j < zs.length → w.cell? ⟨b, off + j, none⟩ = some (.int .i64 (zs.getD j 0))) :
    Calls Try.prog 95 #[.slice (some ⟨b, off, none⟩) zs.length cap] w fun e w' => e = .returned (.int .i64 (orI zs)) ∧ w = w' := by
  obtain ⟨n, hn⟩ : ∃ n, zs.length = n := ⟨_, rfl⟩
  rw [hn] at hz hc ⊢
  have HN := Lib.hid hn
  clear hn
  have HC := Lib.hid hc
  clear hc
  go_enter Try.func95, Try.ntmps95
  go_wp2
  go_loop [8] (fun i => ∃ k : Nat, k ≤ n ∧ i = .int .i64 k ∧ ∀ j, j < k → zs.getD j 0 = 0) (fun i => n - (intOf i).toNat)
  case atStart => exact ⟨0, Nat.zero_le _, rfl, fun j hj => absurd hj (by omega)⟩
  case round =>
    obtain ⟨k, hk, rfl, hz0⟩ := hrel
    have HZ := Lib.hid hz0
    clear hz0
    by_cases hlt : k < n
    · have hcell := HC.out k hlt
      obtain ⟨z, hzk⟩ : ∃ z, zs.getD k 0 = z := ⟨_, rfl⟩
      rw [hzk] at hcell
      have HK := Lib.hid hzk
      clear hzk
      by_cases h0 : z = 0
      · subst h0
        go_wp2
        go_round
        case rel => exact ⟨k + 1, by omega, by go_num, fun j hj => by
          by_cases e : j = k
          · subst e; exact HK.out
          · exact HZ.out j (by omega)⟩
        case measure => simp [intOf]; omega
      · have h0' : (z != 0) = true := by simpa using h0
        go_wp2
        go_ret
        refine ⟨?_, rfl⟩
        rw [orI_drop zs k HZ.out, List.drop_eq_getElem_cons (by rw [HN.out]; exact hlt)]
        have : zs[k]'(by rw [HN.out]; exact hlt) = z := by rw [← HK.out]; simp [List.getD, HN.out, hlt]
        rw [this, orI, if_neg h0]; rfl
    · go_wp2
      go_ret
      refine ⟨?_, rfl⟩
      rw [orI_drop zs k HZ.out, List.drop_of_length_le (by rw [HN.out]; omega), orI]; rfl

end Go.Proofs.Ytncgpojjibojlaa

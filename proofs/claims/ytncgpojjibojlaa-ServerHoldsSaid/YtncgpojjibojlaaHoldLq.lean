/- What is held stays under any op that does not name it: plain data, no program in sight. -/
import Derived.Test.YtncgpojjibojlaaGgq
import Derived.Test.YtncgpojjibojlaaDoes11q
namespace Go.Proofs.Ytncgpojjibojlaa
open Go

structure HeldS (R c u : Int) (d : List Nat) (s : Sv) : Prop where
  ok : OkS s
  room : s.room = R
  there : findR s.l c false = some (c, 1, u, false, false)
  bytes : s.f c false = d
  sum : ((sumC d : Nat) : Int) = u

theorem HeldS.read {R c u : Int} {d : List Nat} {s : Sv} (h : HeldS R c u d s) : readS s c = (d, 1, 0) := by
  rw [readS_eq h.ok, h.there]
  have : spoiltS s (c, 1, u, false, false) = false := by
    unfold spoiltS
    rw [h.bytes]
    simp [h.sum]
  simp only [this, h.bytes]
  rfl
theorem HeldS.keep {R c u : Int} {d : List Nat} {s s' : Sv} (h : HeldS R c u d s) (ok : OkS s') (hr : s'.room = s.room) (hl : findR s'.l c false = findR s.l c false) (hf : s'.f c false = s.f c false) : HeldS R c u d s' :=
  ⟨ok, hr.trans h.room, hl.trans h.there, hf.trans h.bytes, h.sum⟩
theorem HeldS.keepM {R c u : Int} {d : List Nat} {s s' : Sv} (h : HeldS R c u d s) (ok : OkS s') (hr : s'.room = s.room) (hl : ∀ x : Re, x.1 = c → x.2.2.2.1 = false → (x ∈ s.l ↔ x ∈ s'.l)) (hf : s'.f c false = s.f c false) : HeldS R c u d s' :=
  h.keep ok hr (findR_ext h.ok.ris ok.ris hl).symm hf
theorem HeldS.notbad {R c u : Int} {d : List Nat} {s : Sv} (h : HeldS R c u d s) : c ∉ badS s := by
  rw [mem_badS h.ok]
  rintro ⟨x, hx, ht, hc, hsp⟩
  have := (findR_some h.ok.ris).2 ⟨hx, hc, ht⟩
  rw [h.there] at this
  injection this with this
  rw [← this] at hsp
  unfold spoiltS at hsp
  rw [h.bytes] at hsp
  simp [h.sum] at hsp
theorem HeldS.bgn {R c u : Int} {d : List Nat} {s : Sv} (h : HeldS R c u d s) (ch v su : Int) {od : List Nat} (hb : okB od) : HeldS R c u d (bgnS s ch v su od).2 := by
  refine h.keep (h.ok.bgn hb) ?_ ?_ ?_
  · unfold bgnS
    split
    · rfl
    split
    · rfl
    split <;> rfl
  · unfold bgnS
    split
    · rfl
    split
    · rfl
    split
    · rename_i h3
      obtain ⟨⟨e, m⟩, hm⟩ : ∃ p, bgnR s.l (ch, v, su, false, false) s.room = p := ⟨_, rfl⟩
      rw [hm] at h3 ⊢
      simp only at h3 ⊢
      subst h3
      obtain ⟨rfl, _⟩ := bgnR_ok hm
      rw [h.ok.fair]
      exact findR_put_other h.ok.ris _ (by simp)
    · rfl
  · unfold bgnS
    split
    · rfl
    split
    · rfl
    split
    · exact upF_other _ _ (by simp)
    · rfl
theorem HeldS.cmt {R c u : Int} {d : List Nat} {s : Sv} (h : HeldS R c u d s) {ch : Int} (hne : ch ≠ c) (v : Int) : HeldS R c u d (cmtS s ch v).2 := by
  refine h.keep (h.ok.cmt ch v) ?_ ?_ ?_
  · unfold cmtS
    split <;> rfl
  · unfold cmtS
    split
    · rename_i h3
      obtain ⟨⟨e, m⟩, hm⟩ : ∃ p, cmtR s.l ch v = p := ⟨_, rfl⟩
      rw [hm] at h3 ⊢
      simp only at h3 ⊢
      subst h3
      obtain ⟨t, ht, _, rfl⟩ := cmtR_ok hm
      rw [h.ok.fair] at ht ⊢
      have ht1 := ((findR_some h.ok.ris).1 ht).2.1
      rw [findR_put_other (dropR_ris h.ok.ris _) _ (by simp only [ht1]; exact fun e => hne e.1)]
      exact findR_drop_other h.ok.ris (s := true) (fun e => hne e.1)
    · rfl
  · unfold cmtS
    split
    · show upF (upF s.f ch false _) ch true [] c false = _
      rw [upF_other _ _ (fun e => hne e.1.symm), upF_other _ _ (fun e => hne e.1.symm)]
    · rfl
theorem HeldS.abt {R c u : Int} {d : List Nat} {s : Sv} (h : HeldS R c u d s) (ch : Int) : HeldS R c u d (abtS s ch) := by
  refine h.keep (h.ok.abt ch) rfl ?_ ?_
  · show findR (abtR s.l ch) c false = _
    rw [abtR_dropS, h.ok.fair]
    exact findR_drop_other h.ok.ris (by simp)
  · exact upF_other _ _ (by simp)
theorem HeldS.rmv {R c u : Int} {d : List Nat} {s : Sv} (h : HeldS R c u d s) {ch : Int} (hne : ch ≠ c) : HeldS R c u d (rmvS s ch).2 := by
  refine h.keep (h.ok.rmv ch) ?_ ?_ ?_
  · rw [rmvS_eq h.ok]
    split <;> rfl
  · rw [rmvS_eq h.ok]
    split
    · exact findR_drop_other h.ok.ris (fun e => hne e.1)
    · rfl
  · rw [rmvS_eq h.ok]
    split
    · exact upF_other _ _ (fun e => hne e.1.symm)
    · rfl
theorem HeldS.spl {R c u : Int} {d : List Nat} {s : Sv} (h : HeldS R c u d s) {ch : Int} (hne : ch ≠ c) (bit : Int) : HeldS R c u d (splS s ch bit).2 := by
  refine h.keep (h.ok.spl ch bit) ?_ ?_ ?_
  · unfold splS
    split <;> rfl
  · unfold splS
    split <;> rfl
  · unfold splS
    split
    · rfl
    · exact upF_other _ _ (fun e => hne e.1.symm)
theorem HeldS.scr {R c u : Int} {d : List Nat} {s : Sv} (h : HeldS R c u d s) : HeldS R c u d (scrS s) := by
  have hnb : (badS s).contains c = false := by simpa using h.notbad
  refine h.keepM h.ok.scr ?_ ?_ ?_
  · unfold scrS
    rw [rmvL_eq h.ok]
  · intro x h1 h2
    unfold scrS
    rw [rmvL_eq h.ok, List.mem_filter, h1, hnb]
    simp
  · unfold scrS
    rw [rmvL_eq h.ok]
    simp only [hnb]
    simp
theorem HeldS.reb {R c u : Int} {d : List Nat} {s : Sv} (h : HeldS R c u d s) : HeldS R c u d (rebS s) := by
  refine h.keepM h.ok.reb ?_ ?_ ?_
  · rw [rebS_eq h.ok]
  · intro x h1 h2
    rw [rebS_eq h.ok]
    show _ ↔ x ∈ rstR s.l
    rw [rst_mem h.ok, h2]
    simp
  · rw [rebS_eq h.ok]
    simp
theorem HeldS.step {R c u : Int} {d : List Nat} {s : Sv} (h : HeldS R c u d s) {o : Op11} (hb : okB o.d) (h0 : 0 ≤ o.kind) (h7 : o.kind < 7) (hne : o.chunk = c → o.kind ≠ 1 ∧ o.kind ≠ 3 ∧ o.kind ≠ 4) : HeldS R c u d (doS s o).2 := by
  unfold doS
  split
  · exact h.bgn _ _ _ hb
  split
  · exact h.cmt (fun e => (hne e).1 ‹_›) _
  split
  · exact h.abt _
  split
  · exact h.rmv (fun e => (hne e).2.1 ‹_›)
  split
  · exact h.spl (fun e => (hne e).2.2 ‹_›) _
  split
  · exact h.scr
  split
  · exact h.reb
  · omega
theorem HeldS.one {R c u : Int} {d : List Nat} (ok : OkS (one R c 1 u d)) (hs : ((sumC d : Nat) : Int) = u) : HeldS R c u d (one R c 1 u d) :=
  ⟨ok, rfl, findR_one c 1 u false, upF_same _ _ _ _, hs⟩
theorem new_full {r c v u : Int} {d : List Nat} (hd : d.length ≤ 64) (hs : ((sumC d : Nat) : Int) = u) (hn : namedB c v = true) (hr : r < 1) : bgnS (newS r) c v u d = (7, newS r) := by
  have h0 : (newS r).room = 0 := by simp only [newS]; omega
  have hb : (bgnR (newS r).l (c, v, u, false, false) (newS r).room).1 = 7 := by
    have hf : fairR (newS r).l = [] := rfl
    unfold bgnR
    rw [hf, h0]
    simp only
    rw [if_neg (by rw [hn]; simp)]
    rw [if_neg (by simp [findR]), if_neg (by simp [findR]), if_pos (by simp [findR])]
  unfold bgnS
  rw [if_neg (by omega), if_neg (fun h => h hs), if_neg (by rw [hb]; omega), hb]

end Go.Proofs.Ytncgpojjibojlaa

/- ReplicaNewest: the walk. -/
import Derived.Test.YtncgpojjibojlaaReL
import Derived.Test.YtncgpojjibojlaaReO4
import Derived.Test.YtncgpojjibojlaaAwake10
import Derived.Deep.RegionHeld3
namespace Go.Proofs.Ytncgpojjibojlaa
open Go Go.RowKit

set_option maxHeartbeats 4000000 in
set_option maxRecDepth 100000 in
theorem replicaNewest_walk (v : Value) (l : List Re) (x y : Re) (r : Int) (W : World) (hR : Rd W 5 v l.length (l.flatMap reC)) :
    Calls Try.prog 5 #[v, .agg #[.int .i64 x.1, .int .i64 x.2.1, .int .u32 x.2.2.1, .bool x.2.2.2.1, .bool x.2.2.2.2], .agg #[.int .i64 y.1, .int .i64 y.2.1, .int .u32 y.2.2.1, .bool y.2.2.2.1, .bool y.2.2.2.2], .int .i64 r] W fun e w' => e = .returned (.bool true) ∧ Below W.heap.size W w' := by
  obtain ⟨A, cap, hv, _, _⟩ := hR.shape
  subst hv
  have HR := Lib.hid hR
  clear hR
  obtain ⟨n, hn⟩ : ∃ n, l.length = n := ⟨_, rfl⟩
  have HN := Lib.hid hn
  rw [hn] at HR ⊢
  have BEG := fun (v : Value) (l : List Re) (x : Re) (w : World) => begin_any v l x r w
  have HX : Hid (x = (x.1, x.2.1, x.2.2.1, x.2.2.2.1, x.2.2.2.2)) := Lib.hid rfl
  have HY : Hid (y = (y.1, y.2.1, y.2.2.1, y.2.2.2.1, y.2.2.2.2)) := Lib.hid rfl
  obtain ⟨x0, x1, x2, x3, x4⟩ := x
  obtain ⟨y0, y1, y2, y3, y4⟩ := y
  clear HX HY hn
  dsimp only
  go_enter Try.func5, Try.ntmps5
  go_wp2_with fail
  have hal := below_then (below_one W (.cells #[.int .i64 x0, .int .i64 x1, .int .u32 x2, .bool x3, .bool x4] 52)) (below_one _ (.cells #[.int .i64 y0, .int .i64 y1, .int .u32 y2, .bool y3, .bool y4] 52))
  have hbx := (Bx.new W 52 [.int .i64 x0, .int .i64 x1, .int .u32 x2, .bool x3, .bool x4]).below' (below_one _ (.cells #[.int .i64 y0, .int .i64 y1, .int .u32 y2, .bool y3, .bool y4] 52))
  have hby := Bx.new (W.alloc (.cells #[.int .i64 x0, .int .i64 x1, .int .u32 x2, .bool x3, .bool x4] 52)) 52 [.int .i64 y0, .int .i64 y1, .int .u32 y2, .bool y3, .bool y4]
  rw [World.size_alloc] at hby
  change Bx ((W.alloc (.cells #[.int .i64 x0, .int .i64 x1, .int .u32 x2, .bool x3, .bool x4] 52)).alloc (.cells #[.int .i64 y0, .int .i64 y1, .int .u32 y2, .bool y3, .bool y4] 52)) _ _ _ at hbx
  change Bx ((W.alloc (.cells #[.int .i64 x0, .int .i64 x1, .int .u32 x2, .bool x3, .bool x4] 52)).alloc (.cells #[.int .i64 y0, .int .i64 y1, .int .u32 y2, .bool y3, .bool y4] 52)) _ _ _ at hby
  generalize ((W.alloc (.cells #[.int .i64 x0, .int .i64 x1, .int .u32 x2, .bool x3, .bool x4] 52)).alloc (.cells #[.int .i64 y0, .int .i64 y1, .int .u32 y2, .bool y3, .bool y4] 52)) = w0 at *
  refine (awake10 w0).mono ?_
  rintro e w1 ⟨rfl, hb1⟩
  have HB1 := Lib.hid (below_then hal hb1)
  have HBX1 := Lib.hid (hbx.below' hb1)
  have HBY1 := Lib.hid (hby.below' hb1)
  obtain ⟨B, hB⟩ : ∃ B, W.heap.size = B := ⟨_, rfl⟩
  have HBZ := Lib.hid hB
  rw [hB] at HBX1 HBY1 ⊢
  clear hal hbx hby hb1 hB
  obtain ⟨q0, q1, q2, q3, q4⟩ := HBX1.out.five
  obtain ⟨r0, r1, r2, r3, r4⟩ := HBY1.out.five
  by_cases hn : 100 < n
  · have hni : (n : Int) > 100 := by omega
    go_wp2_with fail
    go_ret
    exact ⟨rfl, HBZ.out ▸ HB1.out⟩
  have hni : ¬ ((n : Int) > 100) := by omega
  by_cases hxy : x0 = y0
  · subst hxy
    have hll : l.length ≤ 100 := by have := HN.out; omega
    go_wp2_with fail
    refine (begin_any _ l (x0, x1, x2, x3, x4) r w1 (by omega) (by have := HR.out.below HB1.out (Nat.le_refl _); rw [← HN.out] at this ⊢; exact this)).mono ?_
    rintro e w2 ⟨v2, rfl, ho2, hb2⟩
    have hm1 := bgnR_len l (x0, x1, x2, x3, x4) r
    have hbad1 := fun h => bgnR_bad (l := l) (x := (x0, x1, x2, x3, x4)) (room := r) h
    obtain ⟨⟨a, m⟩, hm⟩ : ∃ p, bgnR l (x0, x1, x2, x3, x4) r = p := ⟨_, rfl⟩
    rw [hm] at ho2 hm1 hbad1 ⊢
    dsimp only at ho2 hm1 hbad1 ⊢
    obtain ⟨A2, cap2, hv2⟩ := ho2.slice_
    subst hv2
    obtain ⟨nm, hnm⟩ : ∃ n, m.length = n := ⟨_, rfl⟩
    rw [hnm] at ho2 hm1 ⊢
    have HM := Lib.hid hm
    have HNM := Lib.hid hnm
    have HB2 := Lib.hid (below_then HB1.out hb2)
    have HO2 := Lib.hid ho2.rd
    have HBX2 := Lib.hid (HBX1.out.below' hb2)
    have HBY2 := Lib.hid (HBY1.out.below' hb2)
    clear q0 q1 q2 q3 q4 r0 r1 r2 r3 r4 ho2 hm hnm hb2 HBX1 HBY1 hbad1
    obtain ⟨q0, q1, q2, q3, q4⟩ := HBX2.out.five
    obtain ⟨r0, r1, r2, r3, r4⟩ := HBY2.out.five
    have hnm63 : nm ≤ 9223372036854775807 := by omega
    go_wp2_with fail
    refine (begin_any _ m (x0, y1, y2, y3, y4) r w2 (by have := HNM.out; omega) (by have := HO2.out; rw [← HNM.out] at this ⊢; exact this)).mono ?_
    rintro e w3 ⟨v3, rfl, ho3, hb3⟩
    have hm2 := bgnR_len m (x0, y1, y2, y3, y4) r
    have hbad2 := fun h => bgnR_bad (l := m) (x := (x0, y1, y2, y3, y4)) (room := r) h
    obtain ⟨⟨b, n2⟩, hm⟩ : ∃ p, bgnR m (x0, y1, y2, y3, y4) r = p := ⟨_, rfl⟩
    rw [hm] at ho3 hm2 hbad2 ⊢
    dsimp only at ho3 hm2 hbad2 ⊢
    obtain ⟨A3, cap3, hv3⟩ := ho3.slice_
    subst hv3
    obtain ⟨nn, hnn⟩ : ∃ n, n2.length = n := ⟨_, rfl⟩
    have HBAD : Hid (b ≠ 0 → nn = 0) := fun h => by rw [← hnn, hbad2 h]; rfl
    rw [hnn] at ho3 hm2 ⊢
    have HM2 := Lib.hid hm
    have HNN := Lib.hid hnn
    have HB3 := Lib.hid (below_then HB2.out hb3)
    have HO3 := Lib.hid ho3.rd
    have HBX3 := Lib.hid (HBX2.out.below' hb3)
    have HBY3 := Lib.hid (HBY2.out.below' hb3)
    have hnn63 : nn ≤ 9223372036854775807 := by have := HNM.out; omega
    clear q0 q1 q2 q3 q4 r0 r1 r2 r3 r4 ho3 hm hnn hb3 HBX2 HBY2 hbad2
    obtain ⟨q0, q1, q2, q3, q4⟩ := HBX3.out.five
    obtain ⟨r0, r1, r2, r3, r4⟩ := HBY3.out.five
    by_cases ha : a = 0
    · subst ha
      by_cases hb : b = 0
      · subst hb
        go_wp2_with fail
        obtain ⟨hlt, hc5, hc0, hlen, hhas⟩ := newest_law (x := (x0, x1, x2, x3, x4)) (y := (x0, y1, y2, y3, y4)) rfl HM.out HM2.out
        dsimp only at hlt hc5 hc0 hlen hhas
        have HLT := Lib.hid hlt
        have HHAS := Lib.hid hhas
        have HLEN : Hid (nn = nm) := by have := HNM.out; have := HNN.out; show nn = nm; omega
        refine (commit_any _ n2 x0 x1 w3 (by have := HNM.out; have := HNN.out; omega) (by have := HO3.out; rw [← HNN.out] at this ⊢; exact this)).mono ?_
        rintro e w4 ⟨v4, rfl, ho4, hb4⟩
        rw [hc5]
        have HB4 := Lib.hid (below_then HB3.out hb4)
        have HO4 := Lib.hid (HO3.out.below hb4 (Nat.le_refl _))
        have HBX4 := Lib.hid (HBX3.out.below' hb4)
        have HBY4 := Lib.hid (HBY3.out.below' hb4)
        clear q0 q1 q2 q3 q4 r0 r1 r2 r3 r4 ho4 hb4 hc5 hlt hlen hhas
        obtain ⟨q0, q1, q2, q3, q4⟩ := HBX4.out.five
        obtain ⟨r0, r1, r2, r3, r4⟩ := HBY4.out.five
        have HC0 := Lib.hid hc0
        clear hc0
        go_wp2_with fail
        refine (commit_any _ n2 x0 y1 w4 (by have := HNM.out; have := HNN.out; omega) (by have := HO4.out; rw [← HNN.out] at this ⊢; exact this)).mono ?_
        rintro e w5 ⟨v5, rfl, ho5, hb5⟩
        rw [HC0.out]
        have hcl := cmtR_len n2 x0 y1
        obtain ⟨o, ho⟩ : ∃ o, (cmtR n2 x0 y1).2 = o := ⟨_, rfl⟩
        rw [ho] at ho5 hcl
        have HHAS5 : Hid (hasR o x0 y1 y2 = true) := ho ▸ HHAS.out
        obtain ⟨A5, cap5, hv5⟩ := ho5.slice_
        subst hv5
        obtain ⟨no, hno⟩ : ∃ n, o.length = n := ⟨_, rfl⟩
        rw [hno] at ho5
        have HNO := Lib.hid hno
        have HB5 := Lib.hid (below_then HB4.out hb5)
        have HO5 := Lib.hid ho5.rd
        have HBX5 := Lib.hid (HBX4.out.below' hb5)
        have HBY5 := Lib.hid (HBY4.out.below' hb5)
        have HCL : Hid (o.length ≤ 900) := by have := HNM.out; have := HNN.out; show o.length ≤ 900; omega
        clear q0 q1 q2 q3 q4 r0 r1 r2 r3 r4 ho5 hb5 hno ho hcl
        obtain ⟨q0, q1, q2, q3, q4⟩ := HBX5.out.five
        obtain ⟨r0, r1, r2, r3, r4⟩ := HBY5.out.five
        have hlt := HLT.out
        have hnn := HLEN.out
        subst hnn
        go_wp2_with fail
        refine (has_any _ o x0 y1 y2 w5 (by have := HCL.out; omega) (by have := HO5.out; rw [← HNO.out] at this; exact this)).mono ?_
        rintro e w6 ⟨rfl, hb6⟩
        rw [HHAS5.out]
        go_wp2_with fail
        go_ret
        exact ⟨by simp, HBZ.out ▸ below_then HB5.out hb6⟩
      · have hz := HBAD.out hb
        subst hz
        go_wp2_with fail
        go_ret
        exact ⟨rfl, HBZ.out ▸ HB3.out⟩
    · go_wp2_with fail
      go_ret
      exact ⟨rfl, HBZ.out ▸ HB3.out⟩
  · clear hn
    have hne : (x0 != y0) = true := by simpa using hxy
    go_wp2_with fail
    go_ret
    exact ⟨rfl, HBZ.out ▸ HB1.out⟩

end Go.Proofs.Ytncgpojjibojlaa

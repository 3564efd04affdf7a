/- suturelaw10.held, awake (the chapter's examples hold). -/
import Derived.Test.YtncgpojjibojlaaReO4q
import Derived.Test.YtncgpojjibojlaaReSq
import Derived.Test.YtncgpojjibojlaaSameReq
namespace Go.Proofs.Ytncgpojjibojlaa
open Go Go.RowKit Go.Sort

theorem rd_row10 {w : World} {b size n : Nat} {cs : List Value} {t : TypeId} (hb : Bx w b t cs) (hs : cs.length = n * size) (hn : n ≤ 1000) : Rd w size (.slice (some ⟨b, 0, none⟩) n n) n cs :=
  ⟨hs, _, _, rfl, Nat.le_refl _, by unfold maxLen; omega, fun _ => ⟨b, 0, rfl, hb.lt, fun j u hj => by
    rw [Nat.zero_add, hb.cell]
    exact hj⟩⟩

/-- A chunk's held one. -/
def heldR (l : List Re) (c : Int) : Option Re := l.find? (fun x => x.1 == c && !x.2.2.2.1)
def reZ : Re := (0, 0, 0, false, false)
def optR (o : Option Re) : Value := reV (o.getD reZ)
theorem heldR_hit {l : List Re} {c : Int} {k : Nat} (hk : k < l.length) (h0 : ∀ j, j < k → ((at_ l j).1 == c && !(at_ l j).2.2.2.1) = false) (h : ((at_ l k).1 == c && !(at_ l k).2.2.2.1) = true) : heldR l c = some (at_ l k) := by
  unfold heldR
  rw [List.find?_eq_some_iff_getElem]
  refine ⟨h, k, hk, (at_eq hk).symm, fun j hj => ?_⟩
  have := h0 j hj
  rw [at_eq (show j < l.length by omega)] at this
  rw [this]
  rfl
theorem heldR_none {l : List Re} {c : Int} (h0 : ∀ j, j < l.length → ((at_ l j).1 == c && !(at_ l j).2.2.2.1) = false) : heldR l c = none := by
  unfold heldR
  rw [List.find?_eq_none]
  intro x hx
  obtain ⟨j, hj, rfl⟩ := mem_at hx
  rw [h0 j hj]
  simp

def HeldE (o : Option Re) (w : World) (e : Ending) (w' : World) : Prop := e = .returned (.tuple #[optR o, .bool o.isSome]) ∧ Below w.heap.size w w'

set_option maxHeartbeats 2000000 in
theorem held_any (v : Value) (l : List Re) (c : Int) (w : World) (hR : Rd w 5 v l.length (l.flatMap reC)) :
    Calls Try.prog 34 #[v, .int .i64 c] w (HeldE (heldR l c) w) := by
  obtain ⟨A, cap, hv, hcap, hnc⟩ := hR.shape
  subst hv
  obtain ⟨n, hn⟩ : ∃ n, l.length = n := ⟨_, rfl⟩
  have HR := Lib.hid hR
  have HN := Lib.hid hn
  rw [hn] at hnc ⊢
  clear hR hn
  have hnm : n ≤ 9223372036854775807 := by omega
  go_enter Try.func34, Try.ntmps34
  go_wp2_with fail
  have hal := below_one w (.cells #[.int .i64 0, .int .i64 0, .int .u32 0, .bool false, .bool false] 52)
  have hbx := Bx.new w 52 [.int .i64 0, .int .i64 0, .int .u32 0, .bool false, .bool false]
  change Bx (w.alloc (.cells #[.int .i64 0, .int .i64 0, .int .u32 0, .bool false, .bool false] 52)) _ _ _ at hbx
  generalize (w.alloc (.cells #[.int .i64 0, .int .i64 0, .int .u32 0, .bool false, .bool false] 52)) = w0 at *
  obtain ⟨bb, hbb⟩ : ∃ b, w.heap.size = b := ⟨_, rfl⟩
  rw [hbb] at hal hbx ⊢
  have HAL := Lib.hid hal
  have HBX := Lib.hid hbx
  have HBB := Lib.hid hbb
  have hbl := hbx.lt
  clear hal hbx hbb
  go_loopw [6] (fun s6 wr => ∃ (k : Nat), s6 = .int .i64 k ∧ k ≤ n ∧ (∀ j, j < k → ((at_ l j).1 == c && !(at_ l j).2.2.2.1) = false) ∧ Below w0.heap.size w0 wr) (fun s6 _ => n - (intOf s6).toNat)
  case atStart => exact ⟨0, rfl, by omega, fun j hj => absurd hj (by omega), Below.refl _ _⟩
  case round =>
    obtain ⟨k, rfl, hk, hall, hbel⟩ := hrel
    have HA := Lib.hid hall
    have HB := Lib.hid hbel
    have HX1 := Lib.hid (HBX.out.below' hbel)
    clear hall hbel
    by_cases hlt : k < n
    · have hltI : (k : Int) < (n : Int) := by omega
      have hR1 := (HR.out.below HAL.out (Nat.le_of_eq HBB.out)).below HB.out (Nat.le_refl _)
      rw [HN.out] at hR1
      obtain ⟨b, off, hA, hbl⟩ := hR1.addr (by omega)
      subst hA
      obtain ⟨c0, c1, c2, c3, c4⟩ := rd_re hR1 k (by rw [HN.out]; exact hlt)
      have HHT := Lib.hid (heldR_hit (l := l) (c := c) (k := k) (by rw [HN.out]; exact hlt) HA.out)
      obtain ⟨x, hx⟩ : ∃ x, at_ l k = x := ⟨_, rfl⟩
      rw [hx] at c0 c1 c2 c3 c4 HHT
      have HX := Lib.hid hx
      obtain ⟨x0, x1, x2, x3, x4⟩ := x
      simp only at c0 c1 c2 c3 c4 HHT
      have HNX : Hid ((x0 == c && !x3) = false → ∀ j, j < k + 1 → ((at_ l j).1 == c && !(at_ l j).2.2.2.1) = false) := fun h j hj => by
        by_cases e : j = k
        · subst e; rw [HX.out]; exact h
        · exact HA.out j (by omega)
      clear hx hR1
      by_cases he : x0 = c
      · have he' : (x0 == c) = true := by simpa using he
        clear he
        cases x3 with
        | true =>
          go_wp2_with fail
          go_roundw
          case rel => exact ⟨k + 1, by go_num, by omega, HNX.out (by rw [he']; rfl), HB.out⟩
          case measure => simp [intOf]; omega
        | false =>
          have hh := HHT.out (by rw [he']; rfl)
          have HH := Lib.hid hh
          clear hh
          go_wp2_with (with_reducible refine wpList_store_box rfl 52 _ _ rfl bb 52 _ [.int .i64 x0, .int .i64 x1, .int .u32 x2, .bool false, .bool x4] rfl HX1.out rfl rfl ?hk ?hl ?hm)
          case hk => kernel_rfl
          case hl => simp [Value.oneCell']
          case hm =>
            intro w3 hbx3 hfr3
            obtain ⟨q0, q1, q2, q3, q4⟩ := hbx3.five
            go_wp2_with fail
            refine bodyPost_ret (v := .tuple #[reV (x0, x1, x2, false, x4), .bool true]) ?_ rfl ⟨by rw [HH.out]; rfl, ?_⟩
            · simp [results, Try.results34, go_sem, reV, q0, q1, q2, q3, q4]
            · exact HBB.out ▸ (HAL.out.trans (HB.out.mono (by omega))).trans (hfr3.below (B := bb) (by have := HB.out.size; omega) (fun k hk => by have e' : k = bb := hk; omega))
      · have he' : (x0 == c) = false := by simpa using he
        clear he
        go_wp2_with fail
        go_roundw
        case rel => exact ⟨k + 1, by go_num, by omega, HNX.out (by rw [he']; rfl), HB.out⟩
        case measure => simp [intOf]; omega
    · obtain rfl : k = n := by omega
      have hh := heldR_none (l := l) (c := c) (by rw [HN.out]; exact HA.out)
      have HH := Lib.hid hh
      clear hh
      go_wp2_with (with_reducible refine wpList_store_box rfl 52 _ _ rfl bb 52 _ [.int .i64 0, .int .i64 0, .int .u32 0, .bool false, .bool false] rfl HX1.out rfl rfl ?hk ?hl ?hm)
      case hk => kernel_rfl
      case hl => simp [Value.oneCell']
      case hm =>
        intro w3 hbx3 hfr3
        obtain ⟨q0, q1, q2, q3, q4⟩ := hbx3.five
        go_wp2_with fail
        refine bodyPost_ret (v := .tuple #[reV reZ, .bool false]) ?_ rfl ⟨by rw [HH.out]; rfl, ?_⟩
        · simp [results, Try.results34, go_sem, reV, reZ, q0, q1, q2, q3, q4]
        · exact HBB.out ▸ (HAL.out.trans (HB.out.mono (by omega))).trans (hfr3.below (B := bb) (by have := HB.out.size; omega) (fun k hk => by have e' : k = bb := hk; omega))

theorem wake10_a : bgnR [] (1, 1, 5, false, false) 2 = (0, [(1, 1, 5, true, false)]) := by decide
theorem wake10_b : cmtR [(1, 1, 5, true, false)] 1 1 = (0, [(1, 1, 5, false, false)]) := by decide
theorem wake10_c : rstR [(1, 1, 5, true, false)] = [] := by decide
theorem wake10_d : rstR [(1, 1, 5, false, false)] = [(1, 1, 5, false, false)] := by decide
theorem wake10_e : hasR [(1, 1, 5, false, false)] 1 1 5 = true := by decide

set_option maxHeartbeats 1000000 in
theorem awake10 (w : World) : Calls Try.prog 29 #[] w fun e w' => e = .returned (.bool true) ∧ Below w.heap.size w w' := by
  go_enter Try.func29, Try.ntmps29
  go_wp2_with fail
  refine (begin_any _ [] (1, 1, 5, false, false) 2 w (by simp) (Rd.nil_ _ _)).mono ?_
  rintro e w1 ⟨v1, rfl, ho1, hb1⟩
  rw [wake10_a] at ho1 ⊢
  simp only [List.length_singleton] at ho1 ⊢
  obtain ⟨A1, cap1, e1⟩ := ho1.slice_
  subst e1
  have HO1 := Lib.hid ho1.rd
  have HB1 := Lib.hid hb1
  clear ho1 hb1
  go_wp2_with fail
  refine (commit_any _ [(1, 1, 5, true, false)] 1 1 w1 (by simp) HO1.out).mono ?_
  rintro e w2 ⟨v2, rfl, ho2, hb2⟩
  rw [wake10_b] at ho2 ⊢
  simp only [List.length_singleton] at ho2 ⊢
  obtain ⟨A2, cap2, e2⟩ := ho2.slice_
  subst e2
  have HO2 := Lib.hid ho2.rd
  have HB2 := Lib.hid (below_then HB1.out hb2)
  have HO1b := Lib.hid (HO1.out.below hb2 (Nat.le_refl _))
  clear ho2 hb2
  go_wp2_with fail
  refine (restart_any _ [(1, 1, 5, true, false)] w2 (by simp) HO1b.out).mono ?_
  rintro e w3 ⟨v3, rfl, ho3, hb3⟩
  rw [wake10_c] at ho3
  obtain ⟨A3, cap3, e3⟩ := ho3.slice_
  subst e3
  have HB3 := Lib.hid (below_then HB2.out hb3)
  have HO2b := Lib.hid (HO2.out.below hb3 (Nat.le_refl _))
  clear ho3 hb3
  simp only [List.length_nil]
  go_wp2_with fail
  refine (restart_any _ [(1, 1, 5, false, false)] w3 (by simp) HO2b.out).mono ?_
  rintro e w4 ⟨v4, rfl, ho4, hb4⟩
  rw [wake10_d] at ho4
  obtain ⟨A4, cap4, e4⟩ := ho4.slice_
  subst e4
  have HB4 := Lib.hid (below_then HB3.out hb4)
  have HO2c := Lib.hid (HO2b.out.below hb4 (Nat.le_refl _))
  clear ho4 hb4
  simp only [List.length_singleton]
  go_wp2_with fail
  refine (has_any _ [(1, 1, 5, false, false)] 1 1 5 w4 (by simp) HO2c.out).mono ?_
  rintro e w5 ⟨he, hb5⟩
  rw [wake10_e] at he
  subst he
  have HB5 := Lib.hid (below_then HB4.out hb5)
  clear hb5
  go_wp2_with fail
  go_ret
  exact ⟨rfl, HB5.out⟩

end Go.Proofs.Ytncgpojjibojlaa

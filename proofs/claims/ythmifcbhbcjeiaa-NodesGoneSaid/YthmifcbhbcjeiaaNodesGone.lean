/- NodesGone: the walk. -/
import Derived.Test.YthmifcbhbcjeiaaAwake12
import Derived.Test.YthmifcbhbcjeiaaNodesS
import Derived.Test.YthmifcbhbcjeiaaBase2
namespace Go.Proofs.Ythmifcbhbcjeiaa
open Go Go.RowKit

theorem at_map {α β : Type} [Inhabited α] [Inhabited β] (f : α → β) (l : List α) (i : Nat) (h : i < l.length) : at_ (l.map f) i = f (at_ l i) := by
  rw [at_eq (by simpa using h), at_eq h, List.getElem_map]
theorem setIn_may {l : List Nq} (h : mayL l = true) {id st : Int} (hs : btw 0 2 st = true) : mayL (setIn l id st) = true := by
  obtain ⟨h1, h2⟩ := (mayL_iff l).1 h
  have hst := of_decide_eq_true hs
  refine (mayL_iff _).2 ⟨?_, fun y hy => ?_⟩
  · refine List.pairwise_map.2 (h1.imp fun {a b} hab => ?_)
    have e : ∀ x : Nq, noI (if noI x = id then withS x st else x) = noI x := fun x => by split <;> rfl
    rw [e, e]
    exact hab
  · obtain ⟨x, hx, rfl⟩ := List.mem_map.1 hy
    have hm := h2 x hx
    split
    · exact ⟨hm.1, hm.2.1, hm.2.2.1, hst⟩
    · exact hm
/-- What Set leaves, if it answers no error. -/
theorem setE_ok {l : List Nq} (h : mayL l = true) {id st : Int} (he : setE l id st = 0) : setO l id st = setIn l id st ∧ btw 0 2 st = true ∧ ∀ x ∈ l, noI x = id → x.2.2.2 ≠ 2 ∧ ¬ (x.2.2.2 = 0 ∧ st = 2) := by
  refine ⟨by unfold setO; rw [if_pos he, fairL_of h], ?_, ?_⟩
  · unfold setE at he
    split at he
    · omega
    · split at he
      · omega
      · rename_i hh; simpa using hh
  · intro x hx hid
    have hf : findL l id = some x := by
      unfold findL
      rw [fairL_of h, ← hid]
      exact ((mayL_iff l).1 h).1.find_mem hx
    unfold setE at he
    rw [hf] at he
    simp only at he
    split at he
    · omega
    · split at he
      · omega
      · rename_i hh; exact ⟨fun e => hh (.inl e), fun e => hh (.inr e)⟩

def GoneR (W : World) (n m : Nat) (s0 s6 : Value) (wr : World) : Prop :=
  ∃ (k : Nat) (c : List Nq) (A : Option Addr) (cap : Nat), k ≤ m ∧ s6 = .int .i64 k ∧ s0 = .slice A n cap ∧ c.length = n ∧ mayL c = true ∧ Rd wr 4 (.slice A n cap) n (c.flatMap noC) ∧ Below W.heap.size W wr

set_option maxHeartbeats 4000000 in
set_option maxRecDepth 100000 in
theorem nodesGone_walk (v : Value) (l : List Nq) (vs : Value) (sets : List Nq) (W : World) (hR : Rd W 4 v l.length (l.flatMap noC)) (hS : Rd W 4 vs sets.length (sets.flatMap itC)) :
    Calls Try.prog 6 #[v, vs] W fun e w' => e = .returned (.bool true) ∧ Below W.heap.size W w' := by
  obtain ⟨A, cap, hv, hcap, hnc⟩ := hR.shape
  obtain ⟨As, caps, hvs, hcaps, hncs⟩ := hS.shape
  obtain ⟨n, hn⟩ : ∃ n, l.length = n := ⟨_, rfl⟩
  obtain ⟨m, hm⟩ : ∃ m, sets.length = m := ⟨_, rfl⟩
  have HR := Lib.hid hR
  have HS := Lib.hid hS
  have HN := Lib.hid hn
  have HM := Lib.hid hm
  rw [hn] at hv hnc
  rw [hm] at hvs hncs
  subst hv hvs
  clear hR hS hn hm
  go_enter Try.func6, Try.ntmps6
  go_wp2_with fail
  refine (awake12 _).mono ?_
  rintro e w1 ⟨rfl, hb1⟩
  have HB1 := Lib.hid hb1
  clear hb1
  by_cases h1 : (50 : Int) < (n : Int)
  · go_wp2_with fail
    go_ret
    exact ⟨rfl, HB1.out⟩
  · by_cases h2 : (100 : Int) < (m : Int)
    · go_wp2_with fail
      go_ret
      exact ⟨rfl, HB1.out⟩
    · have hn50 : n ≤ 50 := by omega
      have hm50 : m ≤ 100 := by omega
      have hd1 : decide ((50 : Int) < (n : Int)) = false := decide_eq_false h1
      have hd2 : decide ((100 : Int) < (m : Int)) = false := decide_eq_false h2
      go_wp2_with fail
      refine (May_any _ l w1 (HR.out.below HB1.out (Nat.le_refl _))).mono ?_
      rintro e w2 ⟨rfl, hb2⟩
      have HB2 := Lib.hid (below_then HB1.out hb2)
      obtain ⟨mb, hmb⟩ : ∃ mb, mayL l = mb := ⟨_, rfl⟩
      rw [hmb]
      have HMB := Lib.hid hmb
      clear hb2 hmb
      cases mb with
      | false =>
        go_wp2_with fail
        go_ret
        exact ⟨rfl, HB2.out⟩
      | true =>
        go_wp2_with fail
        go_loopw [0, 6] (GoneR W n m) (fun _ s6 _ => m - (intOf s6).toNat)
        case atStart =>
          refine ⟨0, l, A, cap, by omega, rfl, rfl, HN.out, HMB.out, ?_, HB2.out⟩
          have := HR.out.below HB2.out (Nat.le_refl _)
          rw [HN.out] at this
          exact this
        case round =>
          obtain ⟨k, c, Ac, capc, hk, rfl, rfl, hcl, hcm, hRc, hbel⟩ := hrel
          have HCL := Lib.hid hcl
          have HCM := Lib.hid hcm
          have HRC := Lib.hid hRc
          have HB := Lib.hid hbel
          clear hcl hcm hRc hbel
          by_cases hlt : k < m
          · have hltI : (k : Int) < (m : Int) := by omega
            have hS1 := HS.out.below HB.out (Nat.le_refl _)
            rw [HM.out] at hS1
            obtain ⟨bs, os, e1, hbsl⟩ := hS1.addr (by omega)
            subst e1
            obtain ⟨_, d1, d2, _⟩ := rd_no hS1 k (by rw [HM.out]; exact hlt)
            obtain ⟨z, hz⟩ : ∃ z, at_ sets k = z := ⟨_, rfl⟩
            rw [hz] at d1 d2
            obtain ⟨za, zid, zst, zb⟩ := z
            simp only at d1 d2
            have HZ := Lib.hid hz
            clear hz hS1
            go_wp2_with fail
            refine wp_region_mid (C := fun w' => ∃ n, w' = World.drewN _ n) [] 11 1 (by kernel_rfl) (by kernel_rfl) ⟨1, rfl⟩ ?_
            simp only [List.foldl_nil, List.take_succ_cons, List.take_zero, List.drop_succ_cons, List.drop_zero, takeMoves]
            repeat (go_big_quiet_step (fail))
            refine wpQuiet_nil ?_
            intro _ hw'
            obtain ⟨nq, hw''⟩ := hw'
            subst hw''
            go_wp2_with fail
            have hRd := HRC.out.drewN nq
            refine (set_any _ c zid zst _ (by have := HCL.out; omega) (by rw [HCL.out]; exact hRd)).mono ?_
            rintro e w3 ⟨v3, rfl, ho3, hb3⟩
            have hb3' : Below wr.heap.size wr w3 := (below_drewN (Below.refl wr.heap.size wr) nq).trans hb3
            obtain ⟨A3, cap3, hv3⟩ := ho3.slice_
            subst hv3
            have HO3 := Lib.hid (ho3.mono (base' := wr.heap.size) (Nat.le_refl _))
            have HB3 := Lib.hid (HB.out.trans (hb3'.mono HB.out.size))
            have HR3 := Lib.hid (HRC.out.below hb3' (Nat.le_refl _))
            have HW3 := Lib.hid hb3'
            clear hRd ho3 hb3 hb3'
            obtain ⟨er, her⟩ : ∃ er, setE c zid zst = er := ⟨_, rfl⟩
            rw [her]
            have HER := Lib.hid her
            clear her
            obtain ⟨q, hq⟩ : ∃ q, setO c zid zst = q := ⟨_, rfl⟩
            rw [hq] at HO3 ⊢
            have HQ := Lib.hid hq
            clear hq
            go_wp2_with fail
            refine thenQuiet_normal ?_
            repeat (go_big_quiet_step (fail))
            refine wpQuiet_nil ?_
            intro _ hw'
            obtain ⟨nq2, hw''⟩ := hw'
            subst hw''
            refine noPanic_normal ?_
            have HB4 := Lib.hid (below_drewN HB3.out nq2)
            have HR4 := Lib.hid (HR3.out.drewN nq2)
            have HO4 := Lib.hid (HO3.out.drewN nq2)
            have d1' := (HW3.out.cell (p := ⟨bs, os + k * 4 + 1, none⟩) hbsl).trans d1
            have hbs3 : bs < w3.heap.size := Nat.lt_of_lt_of_le hbsl HW3.out.size
            clear HB3 HR3 HO3 d1 d2 HW3
            generalize hw4 : w3.drewN nq2 = w4 at *
            have hw4' : w4.heap.size = w3.heap.size := by rw [← hw4]; rfl
            have d1 : w4.cell? ⟨bs, os + k * 4 + 1, none⟩ = some (.int .i64 zid) := by rw [← hw4]; exact d1'
            clear hw4 d1'
            by_cases he : er = 0
            · subst he
              obtain ⟨g1, g2, g3⟩ := setE_ok HCM.out HER.out
              rw [HQ.out] at g1
              have hql : q.length = n := by rw [g1, setIn_len, HCL.out]
              rw [hql] at HO4 ⊢
              have HG1 := Lib.hid g1
              have HG2 := Lib.hid g2
              have HG3 := Lib.hid g3
              have HQL := Lib.hid hql
              clear g1 g2 g3 hql
              go_wp2_with fail
              go_loopw [9] (fun s9 wi => ∃ j : Nat, j ≤ n ∧ s9 = .int .i64 j ∧ Below w4.heap.size w4 wi) (fun s9 _ => n - (intOf s9).toNat)
              case atStart => exact ⟨0, by omega, rfl, Below.refl _ _⟩
              case round =>
                obtain ⟨j, hj, rfl, hbel2⟩ := hrel
                have HBI := Lib.hid hbel2
                clear hbel2
                by_cases hjn : j < n
                · have hjI : (j : Int) < (n : Int) := by omega
                  have hR1 := HR4.out.below HBI.out (Nat.le_refl _)
                  have hO1 := (HO4.out.below HBI.out (Nat.le_refl _)).rd
                  obtain ⟨bc, oc, e1, hbcl⟩ := hR1.addr (by omega)
                  subst e1
                  obtain ⟨bq, oq, e1, hbql⟩ := hO1.addr (by omega)
                  subst e1
                  obtain ⟨a0, a1, a2, a3⟩ := rd_no hR1 j (by rw [HCL.out]; exact hjn)
                  obtain ⟨b0, b1, b2, b3⟩ := rd_no hO1 j (by rw [HQL.out]; exact hjn)
                  have hqj : at_ q j = if noI (at_ c j) = zid then withS (at_ c j) zst else at_ c j := by rw [HG1.out, setIn, at_map _ _ _ (by rw [HCL.out]; exact hjn)]
                  rw [hqj] at b0 b1 b2 b3
                  have hg3 := HG3.out (at_ c j) (at_mem (by rw [HCL.out]; exact hjn))
                  obtain ⟨x, hx⟩ : ∃ x, at_ c j = x := ⟨_, rfl⟩
                  rw [hx] at a0 a1 a2 a3 b0 b1 b2 b3 hg3
                  obtain ⟨x0, x1, x2, x3⟩ := x
                  simp only [noI, withS] at a0 a1 a2 a3 b0 b1 b2 b3 hg3
                  have d1i := (HBI.out.cell (p := ⟨bs, os + k * 4 + 1, none⟩) (by show bs < w4.heap.size; omega)).trans d1
                  have hbsi : bs < wr.heap.size := by have := HBI.out.size; omega
                  clear hx hR1 hO1 hqj
                  by_cases hid : x0 = zid
                  · subst hid
                    simp only [if_true] at b0 b1 b2 b3
                    obtain ⟨hn2, hn02⟩ := hg3 rfl
                    clear hg3
                    have t1 : (x3 == 2) = false := by simpa using hn2
                    by_cases hz2 : zst = 2
                    · have t3 : (x3 == 0) = false := by simpa using (by omega : ¬ x3 = 0)
                      subst hz2
                      go_wp2_with fail
                      go_quiet (fail)
                      go_wp2_with fail
                      go_roundw
                      case rel => exact ⟨j + 1, by omega, by go_num, below_drewN (HBI.out.trans ((below2 _ _ _).mono HBI.out.size)) _⟩
                      case measure => simp [intOf]; omega
                    · have t2 : (zst == 2) = false := by simpa using hz2
                      go_wp2_with fail
                      go_quiet (fail)
                      go_wp2_with fail
                      go_roundw
                      case rel => exact ⟨j + 1, by omega, by go_num, below_drewN (HBI.out.trans ((below2 _ _ _).mono HBI.out.size)) _⟩
                      case measure => simp [intOf]; omega
                  · have t0 : (x0 == zid) = false := by simpa using hid
                    have t0' : (x0 != zid) = true := by simpa using hid
                    simp only [hid, if_false] at b0 b1 b2 b3
                    clear hg3
                    by_cases hx2 : x3 = 2
                    · subst hx2
                      go_wp2_with fail
                      go_quiet (fail)
                      go_wp2_with fail
                      go_roundw
                      case rel => exact ⟨j + 1, by omega, by go_num, below_drewN (HBI.out.trans ((below2 _ _ _).mono HBI.out.size)) _⟩
                      case measure => simp [intOf]; omega
                    · have t1 : (x3 == 2) = false := by simpa using hx2
                      go_wp2_with fail
                      go_quiet (fail)
                      go_wp2_with fail
                      go_roundw
                      case rel => exact ⟨j + 1, by omega, by go_num, below_drewN (HBI.out.trans ((below2 _ _ _).mono HBI.out.size)) _⟩
                      case measure => simp [intOf]; omega
                · obtain rfl : j = n := by omega
                  go_wp2_with fail
                  go_roundw
                  case rel => exact ⟨k + 1, q, A3, cap3, by omega, by go_num, rfl, HQL.out, by rw [HG1.out]; exact setIn_may HCM.out HG2.out, (HO4.out.below HBI.out (Nat.le_refl _)).rd, HB4.out.trans (HBI.out.mono HB4.out.size)⟩
                  case measure => simp [intOf]; omega
            · have he' : (er != 0) = true := by simpa using he
              have hq0 : q = [] := by rw [← HQ.out]; unfold setO; rw [HER.out, if_neg he]
              subst hq0
              simp only [List.length_nil] at HO4 ⊢
              go_wp2_with fail
              go_roundw
              case rel => exact ⟨k + 1, c, Ac, capc, by omega, by go_num, rfl, HCL.out, HCM.out, HR4.out, HB4.out⟩
              case measure => simp [intOf]; omega
          · obtain rfl : k = m := by omega
            go_wp2_with fail
            go_ret
            exact ⟨rfl, HB.out⟩

end Go.Proofs.Ythmifcbhbcjeiaa

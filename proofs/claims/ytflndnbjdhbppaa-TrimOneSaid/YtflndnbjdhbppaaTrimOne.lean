/- TrimOne: the walk. -/
import Derived.Test.YtflndnbjdhbppaaRef19B
import Derived.Test.YtflndnbjdhbppaaAwake19
import Derived.Test.YtflndnbjdhbppaaTable
import Derived.Test.YtflndnbjdhbppaaBase2
import Derived.IntWalk
namespace Go.Proofs.Ytflndnbjdhbppaa
open Go Go.RowKit Go.Sort

set_option maxHeartbeats 4000000 in
set_option maxRecDepth 100000 in
theorem trimOne_walk (c0 c1 c2 : Int) (vh : Value) (h : List Int) (vn : Value) (l : List Nq) (va : Value) (al : List Int) (vd : Value) (ld : List Ld) (want : Int) (W : World) (hH : Rd W 1 vh h.length (h.flatMap inC)) (hN : Rd W 4 vn l.length (l.flatMap noC)) (hA : Rd W 1 va al.length (al.flatMap inC)) (hD : Rd W 2 vd ld.length (ld.flatMap ldC)) :
    Calls Try.prog 11 #[.agg #[.int .i64 c0, .int .i64 c1, .int .u32 c2, vh], vn, va, vd, .int .i64 want] W fun e w' => e = .returned (.bool true) ∧ Below W.heap.size W w' := by
  obtain ⟨A, cap, hv, _, _⟩ := hH.shape
  subst hv
  obtain ⟨An, capn, hv, _, _⟩ := hN.shape
  subst hv
  obtain ⟨Aa, capa, hv, _, _⟩ := hA.shape
  subst hv
  obtain ⟨Ad, capd, hv, _, _⟩ := hD.shape
  subst hv
  have HH := Lib.hid hH
  have HN := Lib.hid hN
  have HA := Lib.hid hA
  have HD := Lib.hid hD
  clear hH hA hN hD
  go_enter Try.func11, Try.ntmps11
  go_wp2_with fail
  have hal := below_one W (.cells #[.int .i64 c0, .int .i64 c1, .int .u32 c2, .slice A h.length cap] 39)
  have hbc := Bx.new W 39 [.int .i64 c0, .int .i64 c1, .int .u32 c2, .slice A h.length cap]
  change Bx (W.alloc (.cells #[.int .i64 c0, .int .i64 c1, .int .u32 c2, .slice A h.length cap] 39)) _ _ _ at hbc
  generalize (W.alloc (.cells #[.int .i64 c0, .int .i64 c1, .int .u32 c2, .slice A h.length cap] 39)) = w0 at *
  refine (awake19 w0).mono ?_
  rintro e w1 ⟨rfl, hb1⟩
  have HB1 := Lib.hid (below_then hal hb1)
  have HC1 := Lib.hid (hbc.below' hb1)
  obtain ⟨B, hB⟩ : ∃ B, W.heap.size = B := ⟨_, rfl⟩
  have HBZ := Lib.hid hB
  rw [hB] at HC1 ⊢
  clear hal hbc hb1 hB
  obtain ⟨q0, q1, q2, q3⟩ := HC1.out.four
  go_wp2_with fail
  refine (few19 c0 c1 c2 _ _ _ _ h l al ld w1 (HH.out.below HB1.out (Nat.le_refl _)) (HN.out.below HB1.out (Nat.le_refl _)) (HA.out.below HB1.out (Nat.le_refl _)) (HD.out.below HB1.out (Nat.le_refl _))).mono ?_
  rintro e w2 ⟨b, rfl, hf, hb2⟩
  have HB2 := Lib.hid (below_then HB1.out hb2)
  have HC2 := Lib.hid (HC1.out.below' hb2)
  clear hb2 q0 q1 q2 q3 HC1 HB1
  cases b with
  | false =>
    clear hf
    go_wp2_with fail
    go_ret
    exact ⟨rfl, HBZ.out ▸ HB2.out⟩
  | true =>
    obtain ⟨h1, h2, h3, h4⟩ := hf rfl
    obtain ⟨q0, q1, q2, q3⟩ := HC2.out.four
    clear hf
    go_wp2_with fail
    have hal := below_one w2 (.cells #[.int .i64 c0, .int .i64 c1, .int .u32 c2, .slice A h.length cap] 39)
    refine (tmay_any c0 c1 c2 _ h w2.heap.size _ (Bx.new w2 39 [.int .i64 c0, .int .i64 c1, .int .u32 c2, .slice A h.length cap]) ((HH.out.below HB2.out (Nat.le_refl _)).below hal (Nat.le_refl _))).mono ?_
    rintro e w3 ⟨b, rfl, hris, hb3⟩
    have HB3 := Lib.hid (below_then (below_then HB2.out hal) hb3)
    have HC3 := Lib.hid ((HC2.out.below' hal).below' hb3)
    clear hb3 hal q0 q1 q2 q3 HC2 HB2
    cases b with
    | false =>
      clear hris
      go_wp2_with fail
      go_ret
      exact ⟨rfl, HBZ.out ▸ HB3.out⟩
    | true =>
      have HRI := Lib.hid (hris rfl)
      have HND := Lib.hid HRI.out.nodup
      clear hris
      obtain ⟨q0, q1, q2, q3⟩ := HC3.out.four
      go_wp2_with fail
      refine (all_any c0 c1 c2 _ h _ l _ al _ ld want w3 HND.out (by omega) (by omega) (HH.out.below HB3.out (Nat.le_refl _)) (HN.out.below HB3.out (Nat.le_refl _)) (HA.out.below HB3.out (Nat.le_refl _)) (HD.out.below HB3.out (Nat.le_refl _))).mono ?_
      rintro e w4 ⟨v4, rfl, ho4, hb4⟩
      obtain ⟨A4, cap4, e4⟩ := ho4.slice_
      subst e4
      have hgl : (goneT h l al ld want).length ≤ h.length := by have := gone_len (G := gB l al) (I := iB l al) (bt := btB l ld) (want := want) h HND.out; unfold goneT; omega
      have HGN : Hid (excT h l al ld want = none → goneT h l al ld want = []) := fun h5 => goneL_none h5
      have HGS : Hid (∀ n, excT h l al ld want = some n → goneT h l al ld want = n :: goneT (woL h n) l al ld want) := fun n h5 => goneL_some h5
      obtain ⟨gone, hgo⟩ : ∃ g, goneT h l al ld want = g := ⟨_, rfl⟩
      rw [hgo] at ho4 hgl HGN HGS ⊢
      have HR4 := Lib.hid ho4.rd
      have HB4 := Lib.hid (below_then HB3.out hb4)
      have HC4 := Lib.hid (HC3.out.below' hb4)
      clear hgo ho4 hb4 HC3 HB3 q0 q1 q2 q3
      obtain ⟨q0, q1, q2, q3⟩ := HC4.out.four
      go_wp2_with fail
      refine (excess_any c0 c1 c2 _ h _ l _ al _ ld want w4 HND.out (by omega) (by omega) (HH.out.below HB4.out (Nat.le_refl _)) (HN.out.below HB4.out (Nat.le_refl _)) (HA.out.below HB4.out (Nat.le_refl _)) (HD.out.below HB4.out (Nat.le_refl _))).mono ?_
      rintro e w5 ⟨rfl, hb5⟩
      have HR5 := Lib.hid (HR4.out.below hb5 (Nat.le_refl _))
      have HB5 := Lib.hid (below_then HB4.out hb5)
      have HC5 := Lib.hid (HC4.out.below' hb5)
      clear hb5 HC4 HB4 HR4 q0 q1 q2 q3
      obtain ⟨q0, q1, q2, q3⟩ := HC5.out.four
      obtain ⟨o, ho⟩ : ∃ o, excT h l al ld want = o := ⟨_, rfl⟩
      rw [ho] at HGN HGS ⊢
      unfold optI
      clear ho
      cases o with
      | none =>
        obtain rfl := HGN.out rfl
        simp only [Option.isSome_none, Option.getD_none, List.length_nil]
        go_wp2_with fail
        go_ret
        exact ⟨rfl, HBZ.out ▸ HB5.out⟩
      | some x =>
        have hgs := HGS.out x rfl
        simp only [Option.isSome_some, Option.getD_some]
        go_wp2_with fail
        refine (rwo_any c0 c1 c2 _ h x w5 (by omega) (HH.out.below HB5.out (Nat.le_refl _))).mono ?_
        rintro e w6 ⟨v6, rfl, ho6, hb6⟩
        obtain ⟨A6, cap6, e6⟩ := ho6.slice_
        subst e6
        have HR6 := Lib.hid (HR5.out.below hb6 (Nat.le_refl _))
        have HB6 := Lib.hid (below_then HB5.out hb6)
        have HW6 := Lib.hid ho6.rd
        have hwl : (woL h x).length ≤ h.length := List.length_filter_le _ _
        clear hb6 ho6 q0 q1 q2 q3 HC5 HR5
        go_wp2_with fail
        refine (all_any c0 c1 c2 _ (woL h x) _ l _ al _ ld want w6 (woL_nodup HND.out x) (by omega) (by omega) HW6.out (HN.out.below HB6.out (Nat.le_refl _)) (HA.out.below HB6.out (Nat.le_refl _)) (HD.out.below HB6.out (Nat.le_refl _))).mono ?_
        rintro e w7 ⟨v7, rfl, ho7, hb7⟩
        obtain ⟨A7, cap7, e7⟩ := ho7.slice_
        subst e7
        obtain ⟨left, hle⟩ : ∃ g, goneT (woL h x) l al ld want = g := ⟨_, rfl⟩
        rw [hle] at ho7 hgs ⊢
        have HL7 := Lib.hid ho7.rd
        have HR7 := Lib.hid (HR6.out.below hb7 (Nat.le_refl _))
        have HB7 := Lib.hid (below_then HB6.out hb7)
        clear hle ho7 hb7 HR6 HW6 HGN HGS
        subst hgs
        obtain ⟨n, hn⟩ : ∃ n, left.length = n := ⟨_, rfl⟩
        simp only [List.length_cons] at HR7 hgl ⊢
        rw [hn] at HR7 HL7 hgl ⊢
        have HNL := Lib.hid hn
        have hR := HR7.out
        obtain ⟨ba, oa, e1, hbal⟩ := hR.addr (by omega)
        subst e1
        have a0 : w7.cell? ⟨ba, oa, none⟩ = some (.int .i64 x) := by have := rd_int hR 0 (by simp); simpa [at_] using this
        have hne : (((n + 1 : Nat) : Int) != (n : Int) + 1) = false := by simp
        have hwr : IntKind.i64.wrap ((n : Int) + 1) = (n : Int) + 1 := IntWalk.i64_in _ (by omega)
        have hn63 : n + 1 ≤ 9223372036854775807 := by omega
        clear hn hR
        obtain ⟨m, hm⟩ : ∃ m : Nat, n + 1 = m := ⟨_, rfl⟩
        have HM := Lib.hid hm
        have hmn : (m : Int) = (n : Int) + 1 := by omega
        rw [hm] at HR7 ⊢
        have hm0 : (0 : Int) < (m : Int) := by omega
        clear hwr hne hm
        go_wp2_with fail
        clear hmn a0
        go_loopw [17] (fun s17 wr => ∃ k : Nat, k ≤ n ∧ s17 = .int .i64 k ∧ Below w7.heap.size w7 wr) (fun s17 _ => n - (intOf s17).toNat)
        case atStart => exact ⟨0, by omega, rfl, Below.refl _ _⟩
        case round =>
          obtain ⟨k, hk, rfl, hbel⟩ := hrel
          have HBL := Lib.hid hbel
          clear hbel
          by_cases hlt : k < n
          · have hltI : (k : Int) < (n : Int) := by omega
            have hL1 := HL7.out.below HBL.out (Nat.le_refl _)
            obtain ⟨bl, ol, e1, hbll⟩ := hL1.addr (by omega)
            subst e1
            have l0 := rd_int hL1 k (by rw [HNL.out]; exact hlt)
            have hR1 := HR7.out.below HBL.out (Nat.le_refl _)
            have r0 := rd_int hR1 (k + 1) (by rw [List.length_cons, HNL.out]; omega)
            have hat : at_ (x :: left) (k + 1) = at_ left k := by simp [at_]
            rw [hat] at r0
            obtain ⟨z, hz⟩ : ∃ z, at_ left k = z := ⟨_, rfl⟩
            rw [hz] at l0 r0
            have hzz : (z != z) = false := by simp
            have hkm : (k : Int) + 1 < (m : Int) := by have := HM.out; omega
            have hk0 : (0 : Int) ≤ (k : Int) + 1 := by omega
            have hwr : IntKind.i64.wrap ((k : Int) + 1) = (k : Int) + 1 := IntWalk.i64_in _ (by omega)
            have hto : ((k : Int) + 1).toNat = k + 1 := by omega
            clear hL1 hR1 hat hz
            go_wp2_with fail
            go_quiet (fail)
            clear hwr hto
            go_wp2_with fail
            go_roundw
            case rel => exact ⟨k + 1, by omega, by go_num, below_drewN HBL.out _⟩
            case measure => simp [intOf]; omega
          · obtain rfl : k = n := by omega
            go_wp2_with fail
            go_ret
            exact ⟨rfl, HBZ.out ▸ (HB7.out.trans (HBL.out.mono HB7.out.size))⟩

end Go.Proofs.Ytflndnbjdhbppaa

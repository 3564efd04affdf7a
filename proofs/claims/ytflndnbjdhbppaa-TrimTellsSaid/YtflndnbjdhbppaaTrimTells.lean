/- TrimTells: the walk. -/
import Derived.Test.YtflndnbjdhbppaaRef19B
import Derived.Test.YtflndnbjdhbppaaAwake19
import Derived.Test.YtflndnbjdhbppaaTable
import Derived.Test.YtflndnbjdhbppaaInts
import Derived.Test.YtflndnbjdhbppaaBase2
import Derived.Deep.RegionHeld3
namespace Go.Proofs.Ytflndnbjdhbppaa
open Go Go.RowKit Go.Sort

set_option maxHeartbeats 4000000 in
set_option maxRecDepth 100000 in
theorem trimTells_walk (c0 c1 c2 : Int) (vh : Value) (h : List Int) (vn : Value) (l : List Nq) (va : Value) (al : List Int) (vd : Value) (ld : List Ld) (want : Int) (W : World) (hH : Rd W 1 vh h.length (h.flatMap inC)) (hN : Rd W 4 vn l.length (l.flatMap noC)) (hA : Rd W 1 va al.length (al.flatMap inC)) (hD : Rd W 2 vd ld.length (ld.flatMap ldC)) :
    Calls Try.prog 7 #[.agg #[.int .i64 c0, .int .i64 c1, .int .u32 c2, vh], vn, va, vd, .int .i64 want] W fun e w' => e = .returned (.bool true) ∧ Below W.heap.size W w' := by
  obtain ⟨A, cap, hv, _, _⟩ := hH.shape
  subst hv
  obtain ⟨An, capn, hv, _, _⟩ := hN.shape
  subst hv
  obtain ⟨Aa, capa, hv, _, _⟩ := hA.shape
  subst hv
  obtain ⟨Ad, capd, hv, _, _⟩ := hD.shape
  subst hv
  have HH := Lib.hid hH
  have HN := Lib.hid hN
  have HA := Lib.hid hA
  have HD := Lib.hid hD
  clear hH hA hN hD
  go_enter Try.func7, Try.ntmps7
  go_wp2_with fail
  have hal := below_one W (.cells #[.int .i64 c0, .int .i64 c1, .int .u32 c2, .slice A h.length cap] 39)
  have hbc := Bx.new W 39 [.int .i64 c0, .int .i64 c1, .int .u32 c2, .slice A h.length cap]
  change Bx (W.alloc (.cells #[.int .i64 c0, .int .i64 c1, .int .u32 c2, .slice A h.length cap] 39)) _ _ _ at hbc
  generalize (W.alloc (.cells #[.int .i64 c0, .int .i64 c1, .int .u32 c2, .slice A h.length cap] 39)) = w0 at *
  refine (awake19 w0).mono ?_
  rintro e w1 ⟨rfl, hb1⟩
  have HB1 := Lib.hid (below_then hal hb1)
  have HC1 := Lib.hid (hbc.below' hb1)
  obtain ⟨B, hB⟩ : ∃ B, W.heap.size = B := ⟨_, rfl⟩
  have HBZ := Lib.hid hB
  rw [hB] at HC1 ⊢
  clear hal hbc hb1 hB
  obtain ⟨q0, q1, q2, q3⟩ := HC1.out.four
  go_wp2_with fail
  refine (few19 c0 c1 c2 _ _ _ _ h l al ld w1 (HH.out.below HB1.out (Nat.le_refl _)) (HN.out.below HB1.out (Nat.le_refl _)) (HA.out.below HB1.out (Nat.le_refl _)) (HD.out.below HB1.out (Nat.le_refl _))).mono ?_
  rintro e w2 ⟨b, rfl, hf, hb2⟩
  have HB2 := Lib.hid (below_then HB1.out hb2)
  have HC2 := Lib.hid (HC1.out.below' hb2)
  clear hb2 q0 q1 q2 q3 HC1 HB1
  cases b with
  | false =>
    clear hf
    go_wp2_with fail
    go_ret
    exact ⟨rfl, HBZ.out ▸ HB2.out⟩
  | true =>
    obtain ⟨h1, h2, h3, h4⟩ := hf rfl
    obtain ⟨q0, q1, q2, q3⟩ := HC2.out.four
    clear hf
    go_wp2_with fail
    have hal := below_one w2 (.cells #[.int .i64 c0, .int .i64 c1, .int .u32 c2, .slice A h.length cap] 39)
    refine (tmay_any c0 c1 c2 _ h w2.heap.size _ (Bx.new w2 39 [.int .i64 c0, .int .i64 c1, .int .u32 c2, .slice A h.length cap]) ((HH.out.below HB2.out (Nat.le_refl _)).below hal (Nat.le_refl _))).mono ?_
    rintro e w3 ⟨b, rfl, hris, hb3⟩
    have HB3 := Lib.hid (below_then (below_then HB2.out hal) hb3)
    have HC3 := Lib.hid ((HC2.out.below' hal).below' hb3)
    clear hb3 hal q0 q1 q2 q3 HC2 HB2
    cases b with
    | false =>
      clear hris
      go_wp2_with fail
      go_ret
      exact ⟨rfl, HBZ.out ▸ HB3.out⟩
    | true =>
      have HRI := Lib.hid (hris rfl)
      have HND := Lib.hid HRI.out.nodup
      clear hris
      obtain ⟨q0, q1, q2, q3⟩ := HC3.out.four
      go_wp2_with fail
      refine (excess_any c0 c1 c2 _ h _ l _ al _ ld want w3 HND.out (by omega) (by omega) (HH.out.below HB3.out (Nat.le_refl _)) (HN.out.below HB3.out (Nat.le_refl _)) (HA.out.below HB3.out (Nat.le_refl _)) (HD.out.below HB3.out (Nat.le_refl _))).mono ?_
      rintro e w4 ⟨rfl, hb4⟩
      have HB4 := Lib.hid (below_then HB3.out hb4)
      have HC4 := Lib.hid (HC3.out.below' hb4)
      clear hb4 q0 q1 q2 q3 HC3 HB3
      obtain ⟨q0, q1, q2, q3⟩ := HC4.out.four
      obtain ⟨o, ho⟩ : ∃ o, excT h l al ld want = o := ⟨_, rfl⟩
      rw [ho]
      have HO := Lib.hid ho
      clear ho
      unfold optI
      obtain ⟨x, hx⟩ : ∃ x, o.getD 0 = x := ⟨_, rfl⟩
      obtain ⟨y, hy⟩ : ∃ x, o.isSome = x := ⟨_, rfl⟩
      rw [hx, hy]
      have HX := Lib.hid hx
      have HY := Lib.hid hy
      clear hx hy
      go_wp2_with fail
      refine (rexcess_any c0 c1 c2 _ h _ l _ al _ ld want w4 (by omega) (HH.out.below HB4.out (Nat.le_refl _)) (HN.out.below HB4.out (Nat.le_refl _)) (HA.out.below HB4.out (Nat.le_refl _)) (HD.out.below HB4.out (Nat.le_refl _))).mono ?_
      rintro e w5 ⟨he, hb5⟩
      rw [HO.out] at he
      unfold optI at he
      rw [HX.out, HY.out] at he
      subst he
      have HB5 := Lib.hid (below_then HB4.out hb5)
      have HC5 := Lib.hid (HC4.out.below' hb5)
      clear hb5 q0 q1 q2 q3 HC4 HB4
      obtain ⟨q0, q1, q2, q3⟩ := HC5.out.four
      have hyy : (y == y) = true := by cases y <;> rfl
      have HL : Hid (h.length ≤ 1000 ∧ l.length ≤ 1000) := Lib.hid ⟨by omega, by omega⟩
      clear h1 h2 h3 h4
      go_wp2_with fail
      have CALL := fun (w' : World) (hb : Below w5.heap.size w5 w') => all_any c0 c1 c2 (.slice A h.length cap) h (.slice An l.length capn) l (.slice Aa al.length capa) al (.slice Ad ld.length capd) ld want w' HND.out HL.out.1 HL.out.2 ((HH.out.below HB5.out (Nat.le_refl _)).below hb (Nat.le_refl _)) ((HN.out.below HB5.out (Nat.le_refl _)).below hb (Nat.le_refl _)) ((HA.out.below HB5.out (Nat.le_refl _)).below hb (Nat.le_refl _)) ((HD.out.below HB5.out (Nat.le_refl _)).below hb (Nat.le_refl _))
      have CRAL := fun (w' : World) (hb : Below w5.heap.size w5 w') => rall_any c0 c1 c2 (.slice A h.length cap) h (.slice An l.length capn) l (.slice Aa al.length capa) al (.slice Ad ld.length capd) ld want w' HL.out.1 ((HH.out.below HB5.out (Nat.le_refl _)).below hb (Nat.le_refl _)) ((HN.out.below HB5.out (Nat.le_refl _)).below hb (Nat.le_refl _)) ((HA.out.below HB5.out (Nat.le_refl _)).below hb (Nat.le_refl _)) ((HD.out.below HB5.out (Nat.le_refl _)).below hb (Nat.le_refl _))
      have QF := fun (w' : World) (hb : Below w5.heap.size w5 w') => (HC5.out.below' hb).four
      have B50 : Below w5.heap.size w5 w5.drew := (Below.refl w5.heap.size w5).drew
      go_region_held3 (fun w' => w'.cell? ⟨B, 0, none⟩ = some (.int .i64 c0) ∧ w'.cell? ⟨B, 1, none⟩ = some (.int .i64 c1) ∧ w'.cell? ⟨B, 2, none⟩ = some (.int .u32 c2) ∧ w'.cell? ⟨B, 3, none⟩ = some (.slice A h.length cap))
        (first | exact QF _ B58 | exact QF _ B57 | exact QF _ B56 | exact QF _ B50 | go_keep)
        (first
          | (go_at_call 29; refine (CALL _ B50).mono ?_; rintro e w6 ⟨v6, rfl, ho6, hb6⟩; obtain ⟨A6, cap6, e6⟩ := ho6.slice_; subst e6; have B56 : Below w5.heap.size w5 w6 := B50.trans hb6; have HR6 := Lib.hid ho6.rd; clear ho6 hb6)
          | (go_at_call 30; refine (CRAL _ B56).mono ?_; rintro e w7 ⟨v7, rfl, ho7, hb7⟩; obtain ⟨A7, cap7, e7⟩ := ho7.slice_; subst e7; have B57 : Below w5.heap.size w5 w7 := below_then B56 hb7; have HR7 := Lib.hid ho7.rd; have HR67 := Lib.hid (HR6.out.below hb7 (Nat.le_refl _)); clear ho7 hb7)
          | (go_at_call 28; refine (ints_any _ _ (goneT h l al ld want) (goneT h l al ld want) _ HR67.out HR7.out).mono ?_; rintro e w8 ⟨he8, hb8⟩; rw [decide_eq_true rfl] at he8; subst he8; have B58 : Below w5.heap.size w5 w8 := below_then B57 hb8; clear hb8))
      have QG := fun (w' : World) (hb : Below w8.heap.size w8 w') => (HC5.out.below' (below_then B58 hb)).four
      have HB8 := Lib.hid (below_then HB5.out B58)
      have B80 : Below w8.heap.size w8 w8.drew := (Below.refl w8.heap.size w8).drew
      have CWH := fun (w' : World) (hb : Below w8.heap.size w8 w') => whole_any c0 c1 c2 (.slice A h.length cap) h (.slice An l.length capn) l (.slice Aa al.length capa) al want w' HL.out.1 HL.out.2 ((HH.out.below HB8.out (Nat.le_refl _)).below hb (Nat.le_refl _)) ((HN.out.below HB8.out (Nat.le_refl _)).below hb (Nat.le_refl _)) ((HA.out.below HB8.out (Nat.le_refl _)).below hb (Nat.le_refl _))
      have CRW := fun (w' : World) (hb : Below w8.heap.size w8 w') => rwhole_any c0 c1 c2 (.slice A h.length cap) h (.slice An l.length capn) l (.slice Aa al.length capa) al want w' HL.out.1 ((HH.out.below HB8.out (Nat.le_refl _)).below hb (Nat.le_refl _)) ((HN.out.below HB8.out (Nat.le_refl _)).below hb (Nat.le_refl _)) ((HA.out.below HB8.out (Nat.le_refl _)).below hb (Nat.le_refl _))
      obtain ⟨t, ht⟩ : ∃ t, wholeT h l al want = t := ⟨_, rfl⟩
      rw [ht] at CWH CRW
      have htt : (t == t) = true := by cases t <;> rfl
      clear q0 q1 q2 q3 CALL CRAL HR6 HR7 HR67 QF B50 B56 B57 B58 ht
      go_wp2_with fail
      go_region_held3 (fun w' => w'.cell? ⟨B, 0, none⟩ = some (.int .i64 c0) ∧ w'.cell? ⟨B, 1, none⟩ = some (.int .i64 c1) ∧ w'.cell? ⟨B, 2, none⟩ = some (.int .u32 c2) ∧ w'.cell? ⟨B, 3, none⟩ = some (.slice A h.length cap))
        (first | exact QG _ B810 | exact QG _ B89 | exact QG _ B80 | go_keep)
        (first
          | (go_at_call 31; refine (CWH _ B80).mono ?_; rintro e w9 ⟨rfl, hb9⟩; have B89 : Below w8.heap.size w8 w9 := B80.trans hb9; clear hb9)
          | (go_at_call 32; refine (CRW _ B89).mono ?_; rintro e w10 ⟨rfl, hb10⟩; have B810 : Below w8.heap.size w8 w10 := below_then B89 hb10; clear hb10))
      go_wp2_with fail
      go_ret
      exact ⟨by first | rfl | trivial | simp, HBZ.out ▸ below_then HB8.out B810⟩

end Go.Proofs.Ytflndnbjdhbppaa

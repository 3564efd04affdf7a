/- NodesStates: the walk. -/
import Derived.Test.YthmifcbhbcjeiaaAwake12
import Derived.Test.YthmifcbhbcjeiaaNodesI
namespace Go.Proofs.Ythmifcbhbcjeiaa
open Go Go.RowKit

def stN (o : Option Nq) (k : Nat) : Nat := if o.any (fun x => decide (x.2.2.2 < (k : Int))) then 1 else 0
theorem inS_mem {s id : Int} {l : List Nq} : id ∈ inS s l ↔ ∃ x ∈ l, x.2.2.2 = s ∧ noI x = id := by
  unfold inS
  simp only [List.mem_map, List.mem_filter, beq_iff_eq]
  exact ⟨fun ⟨x, ⟨h1, h2⟩, h3⟩ => ⟨x, h1, h2, h3⟩, fun ⟨x, h1, h2, h3⟩ => ⟨x, ⟨h1, h2⟩, h3⟩⟩
theorem inL_find {l : List Nq} {s id : Int} : id ∈ inL l s ↔ ∃ x, findL l id = some x ∧ x.2.2.2 = s := by
  unfold inL
  rw [inS_mem]
  constructor
  · rintro ⟨x, hx, hs, rfl⟩
    exact ⟨x, (fairL_ris l).find_mem hx, hs⟩
  · rintro ⟨x, hx, hs⟩
    exact ⟨x, List.mem_of_find?_eq_some hx, hs, by simpa using List.find?_some hx⟩
theorem inL_nodup (l : List Nq) (s : Int) : (inL l s).Nodup := by
  unfold inL inS
  refine List.Pairwise.map noI (fun a b h => ?_) ((fairL_ris l).sublist List.filter_sublist)
  exact fun e => by omega
theorem inL_count (l : List Nq) (k : Nat) (id : Int) : stN (findL l id) (k + 1) = stN (findL l id) k + (inL l k).count id := by
  have hc := (inL_nodup l k).count (a := id)
  rw [hc]
  unfold stN
  cases ho : findL l id with
  | none =>
    have hn : ¬ id ∈ inL l k := by rw [inL_find, ho]; simp
    simp [hn]
  | some x =>
    have hi : id ∈ inL l k ↔ x.2.2.2 = (k : Int) := by
      rw [inL_find, ho]
      exact ⟨fun ⟨y, hy, hs⟩ => by cases hy; exact hs, fun h => ⟨x, rfl, h⟩⟩
    simp only [Option.any_some, decide_eq_true_eq, hi]
    split <;> split <;> split <;> omega
theorem inS_three {l : List Nq} (h : ∀ x ∈ l, mayP x) : (inS 0 l).length + (inS 1 l).length + (inS 2 l).length = l.length := by
  induction l with
  | nil => rfl
  | cons x l ih =>
    have hi := ih (fun y hy => h y (by simp [hy]))
    have hx := (h x (by simp)).2.2.2
    have e : ∀ s, (inS s (x :: l)).length = (inS s l).length + if x.2.2.2 = s then 1 else 0 := fun s => by
      unfold inS
      rw [List.filter_cons]
      by_cases hs : x.2.2.2 = s
      · simp [hs]
      · simp [hs]
    rw [e, e, e, List.length_cons]
    split <;> split <;> split <;> omega
theorem count_at (l : List Int) (id : Int) (i : Nat) (h : i < l.length) : (l.take (i + 1)).count id = (l.take i).count id + if at_ l i = id then 1 else 0 := by
  rw [take_at h, List.count_append]
  congr 1
  by_cases e : at_ l i = id
  · simp [e]
  · simp [e]
def manyN (l : List Nq) : Nat → Nat
  | 0 => 0
  | k + 1 => manyN l k + (inL l k).length
theorem manyN_three {l : List Nq} (h : mayL l = true) : manyN l 3 = l.length := by
  have := inS_three (((mayL_iff l).1 h).2)
  have e : ∀ s, inL l s = inS s l := fun s => by rw [inL, fairL_of h]
  have h3 : manyN l 3 = 0 + (inL l ((0 : Nat) : Int)).length + (inL l ((1 : Nat) : Int)).length + (inL l ((2 : Nat) : Int)).length := rfl
  rw [h3, e, e, e, ← this]
  simp
theorem manyN_le {l : List Nq} (k : Nat) : manyN l k ≤ k * l.length := by
  induction k with
  | zero => simp [manyN]
  | succ k ih =>
    have h1 : (inL l k).length ≤ l.length := Nat.le_trans (inS_len _ _) (fairL_len l)
    unfold manyN
    rw [Nat.add_mul]
    omega
theorem stN_three {l : List Nq} {id : Int} : stN (findL l id) 3 = if (findL l id).isSome then 1 else 0 := by
  unfold stN
  cases h : findL l id with
  | none => rfl
  | some x =>
    have := (fairL_may l x (List.mem_of_find?_eq_some h)).2.2.2.2
    simp
    omega
theorem stN_le (o : Option Nq) (k : Nat) : stN o k ≤ 1 := by unfold stN; split <;> omega

set_option maxHeartbeats 4000000 in
set_option maxRecDepth 100000 in
theorem nodesStates_walk (v : Value) (l : List Nq) (id : Int) (W : World) (hR : Rd W 4 v l.length (l.flatMap noC)) :
    Calls Try.prog 5 #[v, .int .i64 id] W fun e w' => e = .returned (.bool true) ∧ Below W.heap.size W w' := by
  obtain ⟨A, cap, hv, hcap, hnc⟩ := hR.shape
  obtain ⟨n, hn⟩ : ∃ n, l.length = n := ⟨_, rfl⟩
  have HR := Lib.hid hR
  have HN := Lib.hid hn
  rw [hn] at hv hnc
  subst hv
  clear hR hn
  go_enter Try.func5, Try.ntmps5
  go_wp2_with fail
  refine (awake12 _).mono ?_
  rintro e w1 ⟨rfl, hb1⟩
  have HB1 := Lib.hid hb1
  clear hb1
  by_cases h1 : (50 : Int) < (n : Int)
  · go_wp2_with fail
    go_ret
    exact ⟨rfl, HB1.out⟩
  · have hn50 : n ≤ 50 := by omega
    have hd1 : decide ((50 : Int) < (n : Int)) = false := decide_eq_false h1
    have HL := Lib.hid (show l.length ≤ 1000 by have := HN.out; omega)
    go_wp2_with fail
    refine (May_any _ l w1 (HR.out.below HB1.out (Nat.le_refl _))).mono ?_
    rintro e w2 ⟨rfl, hb2⟩
    have HB2 := Lib.hid (below_then HB1.out hb2)
    obtain ⟨mb, hmb⟩ : ∃ mb, mayL l = mb := ⟨_, rfl⟩
    rw [hmb]
    have HMB := Lib.hid hmb
    clear hb2 hmb
    cases mb with
    | false =>
      go_wp2_with fail
      go_ret
      exact ⟨rfl, HB2.out⟩
    | true =>
      go_wp2_with fail
      refine (find_any _ l id w2 HL.out (HR.out.below HB2.out (Nat.le_refl _))).mono ?_
      rintro e w3 ⟨rfl, hb3⟩
      obtain ⟨o, ho⟩ : ∃ o, findL l id = o := ⟨_, rfl⟩
      obtain ⟨⟨x0, x1, x2, x3⟩, hx⟩ : ∃ x, optN o = x := ⟨_, rfl⟩
      rw [ho, hx]
      have HO := Lib.hid ho
      have HX := Lib.hid hx
      have HB3 := Lib.hid (below_then HB2.out hb3)
      clear hb3 ho hx
      simp only [noV]
      go_wp2_with fail
      have hal := below_one w3 (.cells #[.int .i64 x0, .int .i64 x1, .int .i64 x2, .int .i64 x3] 28)
      have hbx := Bx.new w3 28 [.int .i64 x0, .int .i64 x1, .int .i64 x2, .int .i64 x3]
      have HB4 := Lib.hid (below_then HB3.out hal)
      change Bx (w3.alloc (.cells #[.int .i64 x0, .int .i64 x1, .int .i64 x2, .int .i64 x3] 28)) _ _ _ at hbx
      generalize w3.alloc (.cells #[.int .i64 x0, .int .i64 x1, .int .i64 x2, .int .i64 x3] 28) = w4 at *
      obtain ⟨B, hB⟩ : ∃ B, w3.heap.size = B := ⟨_, rfl⟩
      rw [hB] at hbx ⊢
      have HBX := Lib.hid hbx
      clear hbx hal hB
      go_wp2_with fail
      go_loopw [8, 9, 10] (fun s8 s9 s10 wr => ∃ k : Nat, k ≤ 3 ∧ s10 = .int .i64 k ∧ s8 = .int .i64 (manyN l k) ∧ s9 = .int .i64 (stN o k) ∧ Below w4.heap.size w4 wr) (fun _ _ s10 _ => 3 - (intOf s10).toNat)
      case atStart => exact ⟨0, by omega, rfl, rfl, by rw [show stN o 0 = 0 from by have := HO.out; subst this; unfold stN; rw [if_neg]; intro hh; obtain ⟨x, hx, h0⟩ := (Option.any_eq_true _ _).1 hh; have := (fairL_may l x (List.mem_of_find?_eq_some hx)).2.2.2.1; simp at h0; omega]; rfl, Below.refl _ _⟩
      case round =>
        obtain ⟨k, hk, rfl, rfl, rfl, hbel⟩ := hrel
        have HBL := Lib.hid hbel
        have hs8 := manyN_le (l := l) k
        have hs9 := stN_le o k
        clear hbel
        by_cases hk3 : k < 3
        · have hk3I : (k : Int) ≤ 2 := by omega
          have hmS : manyN l (k + 1) = manyN l k + (inL l k).length := rfl
          have hoS := inL_count l k id
          rw [HO.out] at hoS
          have HMS := Lib.hid hmS
          have HOS := Lib.hid hoS
          have hmk : manyN l k ≤ 150 := by have := HN.out; rw [this] at hs8; have : k * n ≤ 3 * 50 := Nat.mul_le_mul (by omega) hn50; omega
          clear hmS hoS hs8
          generalize manyN l k = cm at *
          generalize stN o k = co at *
          have hlm : (inL l k).length ≤ 50 := by have := inS_len (k : Int) (fairL l); have := fairL_len l; have := HN.out; unfold inL; omega
          go_wp2_with fail
          refine (in_any _ l k wr HL.out (HR.out.below (HB4.out.trans (HBL.out.mono HB4.out.size)) (Nat.le_refl _))).mono ?_
          rintro e w5 ⟨v5, rfl, ho5, hb5⟩
          obtain ⟨A5, cap5, hv5⟩ := ho5.slice_
          subst hv5
          have HR5 := Lib.hid ho5.rd
          have HB5 := Lib.hid (below_then HBL.out hb5)
          have HBX5 := Lib.hid ((HBX.out.below' HBL.out).below' hb5)
          clear ho5 hb5
          have q3 := HBX5.out.four.2.2.2
          obtain ⟨m, hm⟩ : ∃ m, (inL l k).length = m := ⟨_, rfl⟩
          rw [hm] at hlm ⊢
          have HM := Lib.hid hm
          clear hm
          go_wp2_with fail
          go_loopw [9, 12] (fun s9 s12 wi => ∃ i : Nat, i ≤ m ∧ s12 = .int .i64 i ∧ s9 = .int .i64 ((co + ((inL l k).take i).count id : Nat)) ∧ wi = w5) (fun _ s12 _ => m - (intOf s12).toNat)
          case atStart => exact ⟨0, by omega, rfl, by simp, rfl⟩
          case round =>
            obtain ⟨i, hi, rfl, rfl, rfl⟩ := hrel
            have hcc : ((inL l k).take i).count id ≤ 50 := by have := List.count_le_length (a := id) (l := (inL l k).take i); rw [List.length_take] at this; omega
            by_cases hlt : i < m
            · have hltI : (i : Int) < (m : Int) := by omega
              have hR1 := HR5.out
              rw [HM.out] at hR1
              obtain ⟨b, off, hA, hbl⟩ := hR1.addr (by omega)
              subst hA
              have c0 := rd_int hR1 i (by rw [HM.out]; exact hlt)
              have hca := count_at (inL l k) id i (by rw [HM.out]; exact hlt)
              obtain ⟨z, hz⟩ : ∃ z, at_ (inL l k) i = z := ⟨_, rfl⟩
              rw [hz] at c0 hca
              have HZ := Lib.hid hz
              have HCA := Lib.hid hca
              clear hz hR1 hca
              generalize ((inL l k).take i).count id = cc at *
              by_cases he : z = id
              · subst he
                have h3 : x3 = (k : Int) := by
                  obtain ⟨y, hy, hs⟩ := inL_find.1 (show z ∈ inL l k by rw [← HZ.out]; exact at_mem (by rw [HM.out]; exact hlt))
                  rw [HO.out] at hy
                  have hx := HX.out
                  rw [hy] at hx
                  have : y = (x0, x1, x2, x3) := hx
                  rw [this] at hs
                  exact hs
                subst h3
                go_wp2_with fail
                go_roundw
                case rel => exact ⟨i + 1, by omega, by go_num, by rw [HCA.out, if_pos rfl]; go_num, trivial⟩
                case measure => simp [intOf]; omega
              · have he' : (z == id) = false := by simpa using he
                go_wp2_with fail
                go_roundw
                case rel => exact ⟨i + 1, by omega, by go_num, by rw [HCA.out, if_neg he, Nat.add_zero], trivial⟩
                case measure => simp [intOf]; omega
            · obtain rfl : i = m := by omega
              have HT : Hid ((inL l k).take i = inL l k) := by rw [← HM.out]; exact List.take_length
              rw [HT.out] at hcc ⊢
              go_wp2_with fail
              go_roundw
              case rel => exact ⟨k + 1, by omega, by go_num, by rw [HMS.out, HM.out]; go_num, by rw [HOS.out], HB5.out⟩
              case measure => simp [intOf]; omega
        · obtain rfl : k = 3 := by omega
          have e1 := manyN_three HMB.out
          have e2 := stN_three (l := l) (id := id)
          rw [HN.out] at e1
          rw [HO.out] at e2
          rw [e1, e2]
          clear e1 e2 hs8 hs9
          cases o with
          | none =>
            simp only [Option.isSome_none, Bool.false_eq_true, if_false]
            go_wp2_with fail
            go_ret
            exact ⟨rfl, HB4.out.trans (HBL.out.mono HB4.out.size)⟩
          | some x =>
            simp only [Option.isSome_some, if_true]
            go_wp2_with fail
            go_ret
            exact ⟨rfl, HB4.out.trans (HBL.out.mono HB4.out.size)⟩

end Go.Proofs.Ythmifcbhbcjeiaa

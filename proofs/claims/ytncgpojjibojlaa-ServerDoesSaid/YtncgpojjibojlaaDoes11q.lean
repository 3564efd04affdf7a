/- suturelaw11.few, sum, does: their contracts. -/
import Derived.Test.YtncgpojjibojlaaGgq
import Derived.Test.YtncgpojjibojlaaGeq
import Derived.Test.YtncgpojjibojlaaServerForgetsq
namespace Go.Proofs.Ytncgpojjibojlaa
open Go Go.RowKit Go.Sort

instance : Inhabited Op11 := ⟨⟨0, 0, 0, 0, 0, false, .slice none 0 0, []⟩⟩
def sumO (o : Op11) : Int := if o.right then ((sumC o.d : Nat) : Int) else o.sum
def doS (s : Sv) (o : Op11) : Int × Sv :=
  if o.kind = 0 then bgnS s o.chunk o.version (sumO o) o.d
  else if o.kind = 1 then cmtS s o.chunk o.version
  else if o.kind = 2 then (0, abtS s o.chunk)
  else if o.kind = 3 then rmvS s o.chunk
  else if o.kind = 4 then splS s o.chunk o.bit
  else if o.kind = 5 then (0, scrS s)
  else if o.kind = 6 then (0, rebS s)
  else (0, wipeS s)
/-- What goes by it. -/
def goS (s : Sv) (o : Op11) : List Int := if o.kind = 5 then badS s else []
def fewO (l : List Op11) : Bool := decide (l.length ≤ 60) && l.all (fun o => decide (o.d.length ≤ 100))
theorem OkS.doS {s : Sv} (h : OkS s) {o : Op11} (hb : okB o.d) : OkS (doS s o).2 := by
  unfold Go.Proofs.Ytncgpojjibojlaa.doS
  split
  · exact h.bgn hb
  split
  · exact h.cmt _ _
  split
  · exact h.abt _
  split
  · exact h.rmv _
  split
  · exact h.spl _ _
  split
  · exact h.scr
  split
  · exact h.reb
  · exact h.wipe
theorem Bx.sevn {w : World} {B : Nat} {t : TypeId} {a b c d e f g : Value} (h : Bx w B t [a, b, c, d, e, f, g]) : w.cell? ⟨B, 0, none⟩ = some a ∧ w.cell? ⟨B, 1, none⟩ = some b ∧ w.cell? ⟨B, 2, none⟩ = some c ∧ w.cell? ⟨B, 3, none⟩ = some d ∧ w.cell? ⟨B, 4, none⟩ = some e ∧ w.cell? ⟨B, 5, none⟩ = some f ∧ w.cell? ⟨B, 6, none⟩ = some g :=
  ⟨h.cell 0, h.cell 1, h.cell 2, h.cell 3, h.cell 4, h.cell 5, h.cell 6⟩
/-- The cells of one op. -/
theorem rd_o1 {w : World} {b off cap n : Nat} {l : List Op11} (h : Rd w 7 (.slice (some ⟨b, off, none⟩) n cap) n (l.flatMap o1C)) (i : Nat) (hi : i < l.length) :
    w.cell? ⟨b, off + i * 7, none⟩ = some (.int .i64 (at_ l i).kind) ∧ w.cell? ⟨b, off + i * 7 + 1, none⟩ = some (.int .i64 (at_ l i).chunk) ∧ w.cell? ⟨b, off + i * 7 + 1 + 1, none⟩ = some (.int .i64 (at_ l i).version) ∧
    w.cell? ⟨b, off + i * 7 + 1 + 1 + 1, none⟩ = some (.int .i64 (at_ l i).bit) ∧ w.cell? ⟨b, off + i * 7 + 1 + 1 + 1 + 1, none⟩ = some (.int .u32 (at_ l i).sum) ∧
    w.cell? ⟨b, off + i * 7 + 1 + 1 + 1 + 1 + 1, none⟩ = some (.bool (at_ l i).right) ∧ w.cell? ⟨b, off + i * 7 + 1 + 1 + 1 + 1 + 1 + 1, none⟩ = some ((at_ l i).dv) := by
  have hn : n = l.length := by have := h.1; rw [flat_len o1C 7 o1C_len] at this; omega
  obtain ⟨b', off', cap', hv, _, _, _, hc⟩ := h.form (by omega)
  injection hv with h1 h2 h3
  injection h1 with h1
  injection h1 with h4 h5
  subst h4 h5
  have hg := at_get hi
  have f0 := flat_get o1C 7 o1C_len l i 0 (by omega)
  have f1 := flat_get o1C 7 o1C_len l i 1 (by omega)
  have f2 := flat_get o1C 7 o1C_len l i 2 (by omega)
  have f3 := flat_get o1C 7 o1C_len l i 3 (by omega)
  have f4 := flat_get o1C 7 o1C_len l i 4 (by omega)
  have f5 := flat_get o1C 7 o1C_len l i 5 (by omega)
  have f6 := flat_get o1C 7 o1C_len l i 6 (by omega)
  rw [hg] at f0 f1 f2 f3 f4 f5 f6
  exact ⟨hc _ _ f0, hc _ _ f1, hc _ _ f2, hc _ _ f3, hc _ _ f4, hc _ _ f5, hc _ _ f6⟩

set_option maxHeartbeats 2000000 in
set_option maxRecDepth 100000 in
theorem sumo_any (kk c v bt sm : Int) (rt : Bool) (dv : Value) (d : List Nat) (w : World) (hok : okB d) (hR : Rd w 1 dv d.length (d.flatMap byC)) :
    Calls Try.prog 50 #[.agg #[.int .i64 kk, .int .i64 c, .int .i64 v, .int .i64 bt, .int .u32 sm, .bool rt, dv]] w fun e w' => e = .returned (.int .u32 (sumO ⟨kk, c, v, bt, sm, rt, dv, d⟩)) ∧ Below w.heap.size w w' := by
  obtain ⟨A, cap, hv, hcap, hnc⟩ := hR.shape
  subst hv
  obtain ⟨n, hn⟩ : ∃ n, d.length = n := ⟨_, rfl⟩
  have HN := Lib.hid hn
  have HOK := Lib.hid hok
  rw [hn] at hR hnc ⊢
  have hal := below_one w (.cells #[.int .i64 kk, .int .i64 c, .int .i64 v, .int .i64 bt, .int .u32 sm, .bool rt, .slice A n cap] 36)
  have hbx := Bx.new w 36 [.int .i64 kk, .int .i64 c, .int .i64 v, .int .i64 bt, .int .u32 sm, .bool rt, .slice A n cap]
  change Bx (w.alloc (.cells #[.int .i64 kk, .int .i64 c, .int .i64 v, .int .i64 bt, .int .u32 sm, .bool rt, .slice A n cap] 36)) _ _ _ at hbx
  obtain ⟨q0, q1, q2, q3, q4, q5, q6⟩ := hbx.sevn
  have HAL := Lib.hid hal
  have HR : Hid (Rd (w.alloc (.cells #[.int .i64 kk, .int .i64 c, .int .i64 v, .int .i64 bt, .int .u32 sm, .bool rt, .slice A n cap] 36)) 1 (.slice A n cap) d.length (d.flatMap byC)) := by rw [HN.out]; exact hR.below hal (Nat.le_refl _)
  clear hal hbx hR hn hok
  cases rt with
  | true =>
    go_enter Try.func50, Try.ntmps50
    go_wp2_with fail
    refine (sum_any _ d _ HOK.out HR.out).mono ?_
    rintro e w2 ⟨rfl, hb2⟩
    have HB2 := Lib.hid (below_then HAL.out hb2)
    clear hb2
    go_wp2_with fail
    go_ret
    exact ⟨rfl, HB2.out⟩
  | false =>
    go_enter Try.func50, Try.ntmps50
    go_wp2_with fail
    go_ret
    exact ⟨rfl, HAL.out⟩

set_option maxHeartbeats 2000000 in
set_option maxRecDepth 100000 in
theorem few_any (v : Value) (l : List Op11) (w : World) (hok : ∀ o ∈ l, okO w o) (hR : Rd w 7 v l.length (l.flatMap o1C)) :
    Calls Try.prog 16 #[v] w fun e w' => e = .returned (.bool (fewO l)) ∧ w' = w := by
  obtain ⟨A, cap, hv, hcap, hnc⟩ := hR.shape
  subst hv
  obtain ⟨n, hn⟩ : ∃ n, l.length = n := ⟨_, rfl⟩
  have HN := Lib.hid hn
  have HOK := Lib.hid hok
  rw [hn] at hR hnc ⊢
  have HR := Lib.hid hR
  clear hn hok hR
  go_enter Try.func16, Try.ntmps16
  by_cases hbig : 60 < n
  · have hbI : (n : Int) > 60 := by omega
    go_wp2_with fail
    go_ret
    have : fewO l = false := by unfold fewO; rw [HN.out]; simp; omega
    rw [this]
    exact ⟨rfl, rfl⟩
  have hbI : ¬ ((n : Int) > 60) := by omega
  go_wp2_with fail
  go_loopw [3] (fun s3 wr => ∃ i : Nat, i ≤ n ∧ s3 = .int .i64 i ∧ wr = w ∧ ∀ j, j < i → (at_ l j).d.length ≤ 100) (fun s3 _ => n - (intOf s3).toNat)
  case atStart => exact ⟨0, Nat.zero_le _, rfl, rfl, fun _ h => absurd h (by omega)⟩
  case round =>
    obtain ⟨i, hi, rfl, rfl, hall⟩ := hrel
    have HALL := Lib.hid hall
    clear hall
    by_cases hlt : i < n
    · have hltI : (i : Int) < (n : Int) := by omega
      obtain ⟨b, off, hA, hbl⟩ := HR.out.addr (by omega)
      subst hA
      obtain ⟨c0, c1, c2, c3, c4, c5, c6⟩ := rd_o1 HR.out i (by rw [HN.out]; exact hlt)
      have hoo := HOK.out _ (at_mem (l := l) (i := i) (by rw [HN.out]; exact hlt))
      obtain ⟨⟨kk, c, v, bt, sm, rt, dv, d⟩, ho⟩ : ∃ o, at_ l i = o := ⟨_, rfl⟩
      have HO := Lib.hid ho
      rw [ho] at c0 c1 c2 c3 c4 c5 c6 hoo
      obtain ⟨A6, cap6, hv6, hcap6, hnc6⟩ := hoo.2.2.shape
      dsimp only at c0 c1 c2 c3 c4 c5 c6 hv6 hnc6
      subst hv6
      obtain ⟨m, hm⟩ : ∃ m, d.length = m := ⟨_, rfl⟩
      have HM := Lib.hid hm
      rw [hm] at c6 hnc6
      clear ho hoo hm
      by_cases hmm : 100 < m
      · have hmI : (m : Int) > 100 := by omega
        go_wp2_with fail
        go_ret
        have : fewO l = false := by
          unfold fewO
          rw [Bool.and_eq_false_iff]
          refine .inr ?_
          rw [List.all_eq_false]
          refine ⟨_, at_mem (l := l) (i := i) (by rw [HN.out]; exact hlt), ?_⟩
          rw [HO.out]
          have := HM.out
          simp
          omega
        rw [this]
        exact ⟨rfl, rfl⟩
      · have hmI : ¬ ((m : Int) > 100) := by omega
        go_wp2_with fail
        go_roundw
        case rel =>
          refine ⟨i + 1, by omega, by go_num, by trivial, fun j hj => ?_⟩
          by_cases e : j = i
          · rw [e, HO.out]
            have := HM.out
            show d.length ≤ 100
            omega
          · exact HALL.out j (by omega)
        case measure => simp [intOf]; omega
    · have hltI : ¬ ((i : Int) < (n : Int)) := by omega
      go_wp2_with fail
      go_ret
      have : fewO l = true := by
        unfold fewO
        rw [Bool.and_eq_true, List.all_eq_true]
        refine ⟨by simp; have := HN.out; omega, fun x hx => ?_⟩
        obtain ⟨j, hj, rfl⟩ := List.getElem_of_mem hx
        have := HALL.out j (by have := HN.out; omega)
        rw [at_eq hj] at this
        simpa using this
      rw [this]
      exact ⟨rfl, rfl⟩

def DoE (G : Nat → Prop) (p k : Nat) (s : Sv) (o : Op11) (w : World) (e : Ending) (w' : World) : Prop :=
  ∃ v G', e = .returned (.tuple #[v, .int .i64 (doS s o).1]) ∧ Own w' w.heap.size 3 1 v (goS s o).length ((goS s o).flatMap inC) ∧ (∀ g, blk v = some g → ¬ G' g) ∧ SrvAt w' G' p (k + 1) (doS s o).2 ∧ StepG G G' w w'
theorem SrvAt.up {w : World} {G : Nat → Prop} {p k : Nat} {s : Sv} (h : SrvAt w G p k s) : SrvAt w G p (k + 1) s := by
  obtain ⟨lv, mb, F, h⟩ := h
  exact ⟨lv, mb, F, h.mono (Nat.le_succ k)⟩
theorem DoE.plain {G G' : Nat → Prop} {p k : Nat} {s s' : Sv} {o : Op11} {w w1 w' : World} {e0 : Int} (h : doS s o = (e0, s')) (h5 : o.kind ≠ 5) (hs : SrvAt w' G' p (k + 1) s') (hb : Below w.heap.size w w1) (hst : StepG G G' w1 w') :
    DoE G p k s o w (.returned (.tuple #[.slice none 0 0, .int .i64 e0])) w' := by
  have hg : goS s o = [] := by unfold goS; rw [if_neg h5]
  refine ⟨.slice none 0 0, G', by rw [h], ?_, fun g hg => (by cases hg), by rw [h]; exact hs, (StepG.below hb).trans hst⟩
  rw [hg]
  exact Own.nil_ _ _ _ _

set_option maxHeartbeats 4000000 in
set_option maxRecDepth 100000 in
theorem sdoes_any (p k : Nat) (o : Op11) (s : Sv) (G : Nat → Prop) (w : World) (hO : okO w o) (hoff : OffG G o.dv) (hk : k < 1000) (hok : OkS s) (h : SrvAt w G p k s) :
    Calls Try.prog 19 #[.pointer (some ⟨p, 0, none⟩), .agg #[.int .i64 o.kind, .int .i64 o.chunk, .int .i64 o.version, .int .i64 o.bit, .int .u32 o.sum, .bool o.right, o.dv]] w (DoE G p k s o w) := by
  obtain ⟨kk, c, v, bt, sm, rt, dv, d⟩ := o
  obtain ⟨hc, hokd, hR⟩ := hO
  dsimp only at hc hokd hR hoff ⊢
  have hl16 := hok.l16
  have hlt : ∀ i, G i → i < w.heap.size := by
    obtain ⟨_, _, _, h'⟩ := h
    exact fun i hi => h'.lt i hi
  have hal := below_one w (.cells #[.int .i64 kk, .int .i64 c, .int .i64 v, .int .i64 bt, .int .u32 sm, .bool rt, dv] 36)
  have hbx := Bx.new w 36 [.int .i64 kk, .int .i64 c, .int .i64 v, .int .i64 bt, .int .u32 sm, .bool rt, dv]
  change Bx (w.alloc (.cells #[.int .i64 kk, .int .i64 c, .int .i64 v, .int .i64 bt, .int .u32 sm, .bool rt, dv] 36)) _ _ _ at hbx
  obtain ⟨q0, q1, q2, q3, q4, q5, q6⟩ := hbx.sevn
  have HC := Lib.hid hc
  have HOK := Lib.hid hok
  have HOKD := Lib.hid hokd
  have HAL := Lib.hid hal
  have HR := Lib.hid (hR.below hal (Nat.le_refl _))
  have HS := Lib.hid (h.below_ hal)
  have HBX := Lib.hid hbx
  have HOFF := Lib.hid hoff
  have HLT := Lib.hid hlt
  have HL := Lib.hid hl16
  clear hc hokd hR hoff h hal hbx hok hlt hl16
  by_cases h0 : kk = 0
  · have e0 : doS s ⟨kk, c, v, bt, sm, rt, dv, d⟩ = bgnS s c v (sumO ⟨kk, c, v, bt, sm, rt, dv, d⟩) d := by unfold doS; simp [h0]
    subst h0
    obtain ⟨su, hsu⟩ : ∃ x, sumO ⟨0, c, v, bt, sm, rt, dv, d⟩ = x := ⟨_, rfl⟩
    have SU := sumo_any 0 c v bt sm rt dv d (w.alloc (.cells #[.int .i64 0, .int .i64 c, .int .i64 v, .int .i64 bt, .int .u32 sm, .bool rt, dv] 36)).drew HOKD.out HR.out.drew
    rw [hsu] at e0 SU
    have E := Lib.hid e0
    have HSU := Lib.hid SU
    have h5 := Lib.hid (by omega : (0 : Int) ≠ 5)
    have HGB : Hid (¬ G w.heap.size) := fun hg => by have := HLT.out _ hg; omega
    have m2d := (HBX.out.below' (Below.refl (w.alloc (.cells #[.int .i64 0, .int .i64 c, .int .i64 v, .int .i64 bt, .int .u32 sm, .bool rt, dv] 36)).heap.size (w.alloc (.cells #[.int .i64 0, .int .i64 c, .int .i64 v, .int .i64 bt, .int .u32 sm, .bool rt, dv] 36))).drew).sevn
    have HBXD := Lib.hid (HBX.out.below' (Below.refl (w.alloc (.cells #[.int .i64 0, .int .i64 c, .int .i64 v, .int .i64 bt, .int .u32 sm, .bool rt, dv] 36)).heap.size (w.alloc (.cells #[.int .i64 0, .int .i64 c, .int .i64 v, .int .i64 bt, .int .u32 sm, .bool rt, dv] 36))).drew)
    have HSD := Lib.hid (HS.out.below_ (Below.refl (w.alloc (.cells #[.int .i64 0, .int .i64 c, .int .i64 v, .int .i64 bt, .int .u32 sm, .bool rt, dv] 36)).heap.size (w.alloc (.cells #[.int .i64 0, .int .i64 c, .int .i64 v, .int .i64 bt, .int .u32 sm, .bool rt, dv] 36))).drew)
    clear e0 SU hsu
    go_enter Try.func19, Try.ntmps19
    go_wp2_with fail
    go_region_held3 (fun w' => w'.cell? ⟨w.heap.size, 0, none⟩ = some (.int .i64 0) ∧ w'.cell? ⟨w.heap.size, 1, none⟩ = some (.int .i64 c) ∧ w'.cell? ⟨w.heap.size, 2, none⟩ = some (.int .i64 v) ∧ w'.cell? ⟨w.heap.size, 3, none⟩ = some (.int .i64 bt) ∧ w'.cell? ⟨w.heap.size, 4, none⟩ = some (.int .u32 sm) ∧ w'.cell? ⟨w.heap.size, 5, none⟩ = some (.bool rt) ∧ w'.cell? ⟨w.heap.size, 6, none⟩ = some dv) (first | exact n7 | exact n6 | exact m2d | go_keep)
      (first
        | (go_at_call 50; refine HSU.out.mono ?_; rintro e w3 ⟨rfl, hb3⟩; have n6 := (HBXD.out.below' hb3).sevn; have HB3 := Lib.hid hb3; clear hb3)
        | (go_at_call 28; refine (sbegin_any p k c v su dv d s G w3 HC.out (by have := HL.out; omega) hk HOKD.out (HR.out.drew.below HB3.out (Nat.le_refl _)) HOFF.out (HSD.out.below_ HB3.out)).mono ?_; rintro e w4 ⟨G4, rfl, hs4, hst4⟩; have n7 := ((HBXD.out.below' HB3.out).fr hst4.1 HGB.out).sevn; have HS4 := Lib.hid hs4; have HST4 := Lib.hid hst4; obtain ⟨r, hr⟩ : ∃ x, (bgnS s c v su d).1 = x := ⟨_, rfl⟩; rw [hr]; have HRR := Lib.hid hr; clear hs4 hst4 hr))
    clear q0 q1 q2 q3 q4 q5 q6 m2d n6 n7
    go_wp2_with fail
    refine bodyPost_ret (v := .tuple #[.slice none 0 0, .int .i64 r]) (by simp [results, Try.results19, go_sem]) rfl (DoE.plain (E.out.trans (Prod.ext HRR.out rfl)) h5.out HS4.out (below_then HAL.out ((Below.refl (w.alloc (.cells #[.int .i64 0, .int .i64 c, .int .i64 v, .int .i64 bt, .int .u32 sm, .bool rt, dv] 36)).heap.size (w.alloc (.cells #[.int .i64 0, .int .i64 c, .int .i64 v, .int .i64 bt, .int .u32 sm, .bool rt, dv] 36))).drew.trans HB3.out)) HST4.out)
  by_cases h1 : kk = 1
  · have e1 : doS s ⟨kk, c, v, bt, sm, rt, dv, d⟩ = cmtS s c v := by unfold doS; simp [h1]
    have E := Lib.hid e1
    clear e1
    subst h1
    have h5 := Lib.hid (by omega : ((1 : Int)) ≠ 5)
    go_enter Try.func19, Try.ntmps19
    go_wp2_with fail
    refine (scommit_any p k c v s G _ HC.out (by have := HL.out; omega) hk HS.out).mono ?_
    rintro e w2 ⟨G2, rfl, hs2, hst2⟩
    have HS2 := Lib.hid hs2
    have HST2 := Lib.hid hst2
    obtain ⟨r, hr⟩ : ∃ x, (cmtS s c v).1 = x := ⟨_, rfl⟩
    rw [hr]
    have HRR := Lib.hid hr
    clear hs2 hst2 q0 q1 q2 q3 q4 q5 q6 hr
    go_wp2_with fail
    refine bodyPost_ret (v := .tuple #[.slice none 0 0, .int .i64 r]) (by simp [results, Try.results19, go_sem]) rfl (DoE.plain (E.out.trans (Prod.ext HRR.out rfl)) h5.out HS2.out HAL.out HST2.out)
  by_cases h2 : kk = 2
  · have e2 : doS s ⟨kk, c, v, bt, sm, rt, dv, d⟩ = (0, abtS s c) := by unfold doS; simp [h2]
    have E := Lib.hid e2
    clear e2
    subst h2
    have h5 := Lib.hid (by omega : ((2 : Int)) ≠ 5)
    go_enter Try.func19, Try.ntmps19
    go_wp2_with fail
    refine (sabort_any p k c s G _ HC.out (by have := HL.out; omega) HS.out).mono ?_
    rintro e w2 ⟨G2, rfl, hs2, hst2⟩
    have HS2 := Lib.hid hs2
    have HST2 := Lib.hid hst2
    
    
    
    clear hs2 hst2 q0 q1 q2 q3 q4 q5 q6
    go_wp2_with fail
    refine bodyPost_ret (v := .tuple #[.slice none 0 0, .int .i64 0]) (by simp [results, Try.results19, go_sem]) rfl (DoE.plain (E.out) h5.out HS2.out.up HAL.out HST2.out)
  by_cases h3 : kk = 3
  · have e3 : doS s ⟨kk, c, v, bt, sm, rt, dv, d⟩ = rmvS s c := by unfold doS; simp [h3]
    have E := Lib.hid e3
    clear e3
    subst h3
    have h5 := Lib.hid (by omega : ((3 : Int)) ≠ 5)
    go_enter Try.func19, Try.ntmps19
    go_wp2_with fail
    refine (sremove_any p k c s G _ HC.out (by have := HL.out; omega) HS.out).mono ?_
    rintro e w2 ⟨G2, rfl, hs2, hst2⟩
    have HS2 := Lib.hid hs2
    have HST2 := Lib.hid hst2
    obtain ⟨r, hr⟩ : ∃ x, (rmvS s c).1 = x := ⟨_, rfl⟩
    rw [hr]
    have HRR := Lib.hid hr
    clear hs2 hst2 q0 q1 q2 q3 q4 q5 q6 hr
    go_wp2_with fail
    refine bodyPost_ret (v := .tuple #[.slice none 0 0, .int .i64 r]) (by simp [results, Try.results19, go_sem]) rfl (DoE.plain (E.out.trans (Prod.ext HRR.out rfl)) h5.out HS2.out.up HAL.out HST2.out)
  by_cases h4 : kk = 4
  · have e4 : doS s ⟨kk, c, v, bt, sm, rt, dv, d⟩ = splS s c bt := by unfold doS; simp [h4]
    have E := Lib.hid e4
    clear e4
    subst h4
    have h5 := Lib.hid (by omega : ((4 : Int)) ≠ 5)
    go_enter Try.func19, Try.ntmps19
    go_wp2_with fail
    refine (sspoil_any p k c bt s G _ HC.out ⟨by have := (HOK.out.bytes c false).1; omega, (HOK.out.bytes c false).2⟩ HS.out).mono ?_
    rintro e w2 ⟨G2, rfl, hs2, hst2⟩
    have HS2 := Lib.hid hs2
    have HST2 := Lib.hid hst2
    obtain ⟨r, hr⟩ : ∃ x, (splS s c bt).1 = x := ⟨_, rfl⟩
    rw [hr]
    have HRR := Lib.hid hr
    clear hs2 hst2 q0 q1 q2 q3 q4 q5 q6 hr
    go_wp2_with fail
    refine bodyPost_ret (v := .tuple #[.slice none 0 0, .int .i64 r]) (by simp [results, Try.results19, go_sem]) rfl (DoE.plain (E.out.trans (Prod.ext HRR.out rfl)) h5.out HS2.out.up HAL.out HST2.out)
  by_cases h5 : kk = 5
  · have e5 : doS s ⟨kk, c, v, bt, sm, rt, dv, d⟩ = (0, scrS s) := by unfold doS; simp [h5]
    have g5 : goS s ⟨kk, c, v, bt, sm, rt, dv, d⟩ = badS s := by unfold goS; rw [if_pos h5]
    have E := Lib.hid e5
    have E2 := Lib.hid g5
    clear e5 g5
    subst h5
    go_enter Try.func19, Try.ntmps19
    go_wp2_with fail
    refine (sscrub_any p k s G _ HOK.out HS.out).mono ?_
    rintro e w2 ⟨gv, G2, rfl, ho2, hx2, hs2, hst2⟩
    obtain ⟨Ag, capg, hvg⟩ := ho2.slice_
    subst hvg
    have HO2 := Lib.hid (ho2.mono HAL.out.size)
    have HX2 := Lib.hid hx2
    have HS2 := Lib.hid hs2
    have HST2 := Lib.hid hst2
    clear ho2 hx2 hs2 hst2 q0 q1 q2 q3 q4 q5 q6
    go_wp2_with fail
    refine bodyPost_ret (v := .tuple #[.slice Ag (badS s).length capg, .int .i64 0]) (by simp [results, Try.results19, go_sem]) rfl ?_
    refine ⟨_, G2, by rw [E.out], ?_, HX2.out, by rw [E.out]; exact HS2.out.up, (StepG.below HAL.out).trans HST2.out⟩
    rw [E2.out]
    exact HO2.out
  by_cases h6 : kk = 6
  · have e6 : doS s ⟨kk, c, v, bt, sm, rt, dv, d⟩ = (0, rebS s) := by unfold doS; simp [h6]
    have E := Lib.hid e6
    clear e6
    subst h6
    have h5 := Lib.hid (by omega : ((6 : Int)) ≠ 5)
    go_enter Try.func19, Try.ntmps19
    go_wp2_with fail
    refine (srestart_any p k s G _ HOK.out HS.out).mono ?_
    rintro e w2 ⟨G2, rfl, hs2, hst2⟩
    have HS2 := Lib.hid hs2
    have HST2 := Lib.hid hst2
    
    
    
    clear hs2 hst2 q0 q1 q2 q3 q4 q5 q6
    go_wp2_with fail
    refine bodyPost_ret (v := .tuple #[.slice none 0 0, .int .i64 0]) (by simp [results, Try.results19, go_sem]) rfl (DoE.plain (E.out) h5.out HS2.out.up HAL.out HST2.out)
  have e7 : doS s ⟨kk, c, v, bt, sm, rt, dv, d⟩ = (0, wipeS s) := by unfold doS; simp [h0, h1, h2, h3, h4, h5, h6]
  have E := Lib.hid e7
  have H5 := Lib.hid h5
  clear e7
  go_enter Try.func19, Try.ntmps19
  go_wp2_with fail
  refine (swipe_any p k s G _ HS.out).mono ?_
  rintro e w2 ⟨G2, rfl, hs2, hst2⟩
  have HS2 := Lib.hid hs2
  have HST2 := Lib.hid hst2
  clear hs2 hst2 q0 q1 q2 q3 q4 q5 q6
  go_wp2_with fail
  refine bodyPost_ret (v := .tuple #[.slice none 0 0, .int .i64 0]) (by simp [results, Try.results19, go_sem]) rfl (DoE.plain E.out H5.out HS2.out.up HAL.out HST2.out)

end Go.Proofs.Ytncgpojjibojlaa

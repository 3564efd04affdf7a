/- server.Read: its contract. -/
import Derived.Test.YtncgpojjibojlaaSrv7q
import Derived.Shelf.Abstract
import Derived.RangeFuncLeaves
namespace Go.Proofs.Ytncgpojjibojlaa
open Go Go.RowKit Go.Sort
attribute [local go_sem] Oper.semAt_some

def ReadE (s : Sv) (c : Int) (w : World) (e : Ending) (w' : World) : Prop :=
  ∃ v, e = .returned (.tuple #[v, .int .i64 (readS s c).2.1, .int .i64 (readS s c).2.2]) ∧ Own w' w.heap.size 5 1 v (readS s c).1.length ((readS s c).1.flatMap byC) ∧ Below w.heap.size w w'

theorem keep_cells {W W' : World} {row : Option Nat} {B : Nat} (hg : W.grownBy W' row) (hr : ∀ r, row = some r → B ≤ r ∧ ∃ o : Obj, W.heap[r]? = some o ∧ o.isCells = false) {i : Nat} {cs : Array Value} {t : TypeId} {fr : Nat × Nat} (h : W.heap[i]? = some (.cells cs t fr)) : W'.heap[i]? = W.heap[i]? :=
  hg.block i (Array.getElem?_eq_some_iff.1 h).1 (fun e => by
    obtain ⟨_, o, ho, hc⟩ := hr i e.symm
    rw [h] at ho
    injection ho with ho
    subst ho
    cases hc)
theorem Bx.grown {W W' : World} {row : Option Nat} {B b : Nat} {t : TypeId} {cs : List Value} (h : Bx W b t cs) (hg : W.grownBy W' row) (hr : ∀ r, row = some r → B ≤ r ∧ ∃ o : Obj, W.heap[r]? = some o ∧ o.isCells = false) : Bx W' b t cs := (keep_cells hg hr h).trans h
theorem Own.grown {W W' : World} {row : Option Nat} {B base size n : Nat} {t : TypeId} {v : Value} {xs : List Value} (h : Own W base t size v n xs) (hg : W.grownBy W' row) (hr : ∀ r, row = some r → B ≤ r ∧ ∃ o : Obj, W.heap[r]? = some o ∧ o.isCells = false) : Own W' base t size v n xs :=
  h.keep fun g hgg => by
    obtain ⟨cur, hc⟩ := h.blk_elem hgg
    exact keep_cells hg hr hc
/-- The boxes of the three results. -/
def ResB (W : World) (B : Nat) (v : Value) (a e : Int) : Prop := Bx W (B + 1 + 1) 34 [v] ∧ Bx W (B + 1 + 1 + 1) 3 [.int .i64 a] ∧ Bx W (B + 1 + 1 + 1 + 1) 30 [.int .i64 e]
/-- Where a round has left the loop: with this one, and this is the answer. -/
def NoneYet (c : Int) (pre : List Rb) : Prop := ∀ y ∈ pre, y.1.1 ≠ c
def LeftR (s : Sv) (c : Int) (B : Nat) (w : World) (pre : List Rb) (W : World) : Prop :=
  ∃ (p0 : List Rb) (x : Re) (sp : Bool) (v : Value), pre = p0 ++ [(x, sp)] ∧ NoneYet c p0 ∧ x.1 = c ∧ ResB W B v (if sp then 0 else x.2.1) (if sp then 4 else 0) ∧
    Own W B 5 1 v (if sp then [] else s.f c false).length ((if sp then [] else s.f c false).flatMap byC) ∧ Below B w W
theorem read_none {s : Sv} {c : Int} (h : NoneYet c (fullS s)) : readS s c = ([], 0, 5) := by
  unfold readS
  have : (rstR s.l).find? (fun x => x.1 == c) = none := by
    rw [List.find?_eq_none]
    intro x hx
    have := h (x, spoiltS s x) (List.mem_map.2 ⟨x, hx, rfl⟩)
    simpa using this
  rw [this]
theorem read_some {s : Sv} {c : Int} {p0 : List Rb} {x : Re} {sp : Bool} (hp : p0 ++ [(x, sp)] <+: fullS s) (h : NoneYet c p0) (hx : x.1 = c) : readS s c = if sp then ([], 0, 4) else (s.f c false, x.2.1, 0) := by
  obtain ⟨r, hr⟩ := hp
  have hmap : (fullS s).map (fun y => y.1) = rstR s.l := by
    unfold fullS
    rw [List.map_map]
    exact List.map_id' _
  have hxm : (x, sp) ∈ fullS s := by rw [← hr]; simp
  obtain ⟨z, _, hz⟩ := List.mem_map.1 hxm
  injection hz with h1 h2
  subst h1
  unfold readS
  have : (rstR s.l).find? (fun x => x.1 == c) = some z := by
    rw [← hmap, ← hr, List.map_append, List.map_append, List.append_assoc, List.find?_append, List.find?_eq_none.2 (fun y hy => by
      obtain ⟨q, hq, rfl⟩ := List.mem_map.1 hy
      simpa using h q hq)]
    simp [hx]
  rw [this]
  simp only [h2]

theorem Bx.other {W : World} {b b' j : Nat} {t : TypeId} {cs : List Value} {u : Value} (h : Bx W b t cs) (hn : b ≠ b') : Bx (W.setCell ⟨b', j, none⟩ u) b t cs := (Below.heap_setCell _ _ _ _ (fun e => hn e)).trans h
theorem keeps_below {C : Nat} {A D : World} (h : Below A.heap.size A D) : KeepsFrom C A D := ⟨h.size, fun k o _ hk _ => (h.block k (Array.getElem?_eq_some_iff.1 hk).1).trans hk⟩
/-- Three results written into their boxes. -/
theorem ResB.set3 {W : World} {B : Nat} {v0 v : Value} {a0 e0 a e : Int} (h : ResB W B v0 a0 e0) :
    ResB (((W.setCell ⟨B + 1 + 1, 0, none⟩ v).setCell ⟨B + 1 + 1 + 1, 0, none⟩ (.int .i64 a)).setCell ⟨B + 1 + 1 + 1 + 1, 0, none⟩ (.int .i64 e)) B v a e ∧
    Fr (fun i => i = B + 1 + 1 ∨ i = B + 1 + 1 + 1 ∨ i = B + 1 + 1 + 1 + 1) W (((W.setCell ⟨B + 1 + 1, 0, none⟩ v).setCell ⟨B + 1 + 1 + 1, 0, none⟩ (.int .i64 a)).setCell ⟨B + 1 + 1 + 1 + 1, 0, none⟩ (.int .i64 e)) := by
  obtain ⟨h1, h2, h3⟩ := h
  refine ⟨⟨?_, ?_, ?_⟩, (((Fr.refl _ W).thenSet _ _ (.inl (.inl rfl))).thenSet _ _ (.inl (.inr (.inl rfl)))).thenSet _ _ (.inl (.inr (.inr rfl)))⟩
  · exact ((h1.setJ 0 v).other (by omega)).other (by omega)
  · exact ((h2.other (by omega)).setJ 0 (.int .i64 a)).other (by omega)
  · exact ((h3.other (by omega)).other (by omega)).setJ 0 (.int .i64 e)
theorem Bx.ne {W : World} {a b : Nat} {t u : TypeId} {cs ds : List Value} (h : Bx W a t cs) (k : Bx W b u ds) (hn : t ≠ u) : a ≠ b := fun e => by
  have h1 : W.heap[a]? = _ := h
  have h2 : W.heap[b]? = _ := k
  rw [e, h2] at h1
  injection h1 with h1
  injection h1 with _ h3
  exact hn h3.symm
/-- What the last region of a round reads. -/
structure RdS (B p xb mb k : Nat) (c : Int) (x : Re) (F : Int → Bool → Value) (W : World) : Prop where
  t2 : Bx W B 25 [.pointer (some ⟨p, 0, none⟩)]
  t3 : Bx W (B + 1) 3 [.int .i64 c]
  bp : ∃ r lv, Bx W p 82 [r, lv, .map (some mb)]
  bx : Bx W xb 52 [.int .i64 x.1, .int .i64 x.2.1, .int .u32 x.2.2.1, .bool x.2.2.2.1, .bool x.2.2.2.2]
  mp : MapV W mb k F
theorem RdS.facts {B p xb mb k : Nat} {c : Int} {x : Re} {F : Int → Bool → Value} {W : World} (h : RdS B p xb mb k c x F W) : W.cell? ⟨B, 0, none⟩ = some (.pointer (some ⟨p, 0, none⟩)) ∧ W.cell? ⟨B + 1, 0, none⟩ = some (.int .i64 c) ∧ W.cell? ⟨p, 2, none⟩ = some (.map (some mb)) ∧ W.cell? ⟨xb, 1, none⟩ = some (.int .i64 x.2.1) ∧ MapV W mb k F := by
  obtain ⟨r, lv, hp⟩ := h.bp
  exact ⟨h.t2.cell 0, h.t3.cell 0, hp.three.2.2, h.bx.cell 1, h.mp⟩
theorem RdS.below {B p xb mb k : Nat} {c : Int} {x : Re} {F : Int → Bool → Value} {W W' : World} (h : RdS B p xb mb k c x F W) (hb : Below W.heap.size W W') : RdS B p xb mb k c x F W' := by
  obtain ⟨r, lv, hp⟩ := h.bp
  exact ⟨h.t2.below' hb, h.t3.below' hb, ⟨r, lv, hp.below' hb⟩, h.bx.below' hb, h.mp.below' hb⟩
theorem RdS.set {B p xb mb k : Nat} {c : Int} {x : Re} {F : Int → Bool → Value} {W : World} (h : RdS B p xb mb k c x F W) {v0 : Value} {a0 e0 : Int} (hr : ResB W B v0 a0 e0) {b : Nat} (hb : b = B + 1 + 1 ∨ b = B + 1 + 1 + 1 ∨ b = B + 1 + 1 + 1 + 1) (u : Value) : RdS B p xb mb k c x F (W.setCell ⟨b, 0, none⟩ u) := by
  obtain ⟨r, lv, hp⟩ := h.bp
  have hty : ∃ t ds, Bx W b t ds ∧ t ≠ 82 ∧ t ≠ 52 := by
    rcases hb with rfl | rfl | rfl
    · exact ⟨_, _, hr.1, by decide, by decide⟩
    · exact ⟨_, _, hr.2.1, by decide, by decide⟩
    · exact ⟨_, _, hr.2.2, by decide, by decide⟩
  obtain ⟨t, ds, h1, h2, h3⟩ := hty
  refine ⟨h.t2.other (by omega), h.t3.other (by omega), ⟨r, lv, hp.other (hp.ne h1 h2.symm)⟩, h.bx.other (h.bx.ne h1 h3.symm), h.mp.keep ?_⟩
  exact Below.heap_setCell _ _ _ _ (fun e => by
    obtain ⟨es, ck, ho⟩ := h.mp.obj
    have h4 : W.heap[b]? = _ := h1
    rw [show b = mb from e.symm, ho] at h4
    cases h4)
theorem ResB.set1 {W : World} {B : Nat} {v0 : Value} {a0 e0 : Int} (h : ResB W B v0 a0 e0) (v : Value) : ResB (W.setCell ⟨B + 1 + 1, 0, none⟩ v) B v a0 e0 :=
  ⟨h.1.setJ 0 v, h.2.1.other (by omega), h.2.2.other (by omega)⟩
theorem ResB.set2 {W : World} {B : Nat} {v0 : Value} {a0 e0 : Int} (h : ResB W B v0 a0 e0) (a : Int) : ResB (W.setCell ⟨B + 1 + 1 + 1, 0, none⟩ (.int .i64 a)) B v0 a e0 :=
  ⟨h.1.other (by omega), h.2.1.setJ 0 (.int .i64 a), h.2.2.other (by omega)⟩
theorem ResB.set4 {W : World} {B : Nat} {v0 : Value} {a0 e0 : Int} (h : ResB W B v0 a0 e0) (e : Int) : ResB (W.setCell ⟨B + 1 + 1 + 1 + 1, 0, none⟩ (.int .i64 e)) B v0 a0 e :=
  ⟨h.1.other (by omega), h.2.1.other (by omega), h.2.2.setJ 0 (.int .i64 e)⟩
theorem ResB.cells {W : World} {B : Nat} {v0 : Value} {a0 e0 : Int} (h : ResB W B v0 a0 e0) : (W.cell? ⟨B + 1 + 1, 0, none⟩ = some v0 ∧ W.cell? ⟨B + 1 + 1 + 1, 0, none⟩ = some (.int .i64 a0) ∧ W.cell? ⟨B + 1 + 1 + 1 + 1, 0, none⟩ = some (.int .i64 e0)) ∧
    W.frozen? ⟨B + 1 + 1, 0, none⟩ = false ∧ W.frozen? ⟨B + 1 + 1 + 1, 0, none⟩ = false ∧ W.frozen? ⟨B + 1 + 1 + 1 + 1, 0, none⟩ = false :=
  ⟨⟨h.1.cell 0, h.2.1.cell 0, h.2.2.cell 0⟩, h.1.frozen 0, h.2.1.frozen 0, h.2.2.frozen 0⟩
theorem own_leftR {s : Sv} {c : Int} {B : Nat} {w : World} {C : Nat} (hB : B ≤ w.heap.size) (hC : B ≤ C) (cd : Code) : OwnFrom C (fun pre W => cd = .ret ∧ LeftR s c B w pre W) := by
  rintro pre A A' row ⟨h0, p0, x, sp, v, h1, h2, h3, ⟨h4, h5, h6⟩, h7, h8⟩ hg hr
  exact ⟨h0, p0, x, sp, v, h1, h2, h3, ⟨h4.grown hg hr, h5.grown hg hr, h6.grown hg hr⟩, h7.grown hg hr, ownFrom_below (β := Unit) hB hC () A A' row h8 hg hr⟩

set_option maxHeartbeats 4000000 in
set_option maxRecDepth 100000 in
theorem sread_any (p k : Nat) (c : Int) (s : Sv) (G : Nat → Prop) (w : World) (hc : wfI c) (hok : OkS s) (h : SrvAt w G p k s) :
    Calls Try.prog 21 #[.pointer (some ⟨p, 0, none⟩), .int .i64 c] w (ReadE s c w) := by
  obtain ⟨lv, mb, F, h⟩ := h
  have HH := Lib.hid h
  have HC := Lib.hid hc
  have HOK := Lib.hid hok
  clear h hc hok
  refine (callsIn_wide (n := 4)).1 ?_
  refine callsIn_of_wp_marks (F := Fence.wide) Try.func21 rfl trivial ?_ rfl
  simp only [Try.ntmps21, List.size_toArray, List.length_cons, List.length_nil, Nat.reduceAdd, Nat.reduceSub, Array.replicate_succ, Array.replicate_zero, List.push_toArray, List.append_toArray, List.nil_append, List.cons_append]
  gi_wp2_with (refine ⟨trivial, ?_⟩; gi_at_call 61; refine (callsIn_wide.2 (sheld_any p _)).mono ?_; rintro e w' ⟨rfl, rfl⟩)
  obtain ⟨B, hB⟩ : ∃ B, w.heap.size = B := ⟨_, rfl⟩
  obtain ⟨w6, hw6, t2, t3, t4, t5, t6, t7, hbel, hsz⟩ : ∃ w6, ((((((w.alloc (.cells #[.pointer (some ⟨p, 0, none⟩)] 25)).alloc (.cells #[.int .i64 c] 3)).alloc (.cells #[.slice none 0 0] 34)).alloc (.cells #[.int .i64 0] 3)).alloc (.cells #[.int .i64 0] 30)).alloc (.cells #[.pointer (some ⟨p, 0, none⟩)] 25)) = w6 ∧
      Bx w6 B 25 [.pointer (some ⟨p, 0, none⟩)] ∧ Bx w6 (B + 1) 3 [.int .i64 c] ∧ Bx w6 (B + 1 + 1) 34 [.slice none 0 0] ∧ Bx w6 (B + 1 + 1 + 1) 3 [.int .i64 0] ∧ Bx w6 (B + 1 + 1 + 1 + 1) 30 [.int .i64 0] ∧ Bx w6 (B + 1 + 1 + 1 + 1 + 1) 25 [.pointer (some ⟨p, 0, none⟩)] ∧ Below w.heap.size w w6 ∧ w6.heap.size = B + 6 := by
    have a1 := Bx.new w 25 [.pointer (some ⟨p, 0, none⟩)]
    have a2 := Bx.new (w.alloc (.cells #[.pointer (some ⟨p, 0, none⟩)] 25)) 3 [.int .i64 c]
    have a3 := Bx.new ((w.alloc (.cells #[.pointer (some ⟨p, 0, none⟩)] 25)).alloc (.cells #[.int .i64 c] 3)) 34 [.slice none 0 0]
    have a4 := Bx.new (((w.alloc (.cells #[.pointer (some ⟨p, 0, none⟩)] 25)).alloc (.cells #[.int .i64 c] 3)).alloc (.cells #[.slice none 0 0] 34)) 3 [.int .i64 0]
    have a5 := Bx.new ((((w.alloc (.cells #[.pointer (some ⟨p, 0, none⟩)] 25)).alloc (.cells #[.int .i64 c] 3)).alloc (.cells #[.slice none 0 0] 34)).alloc (.cells #[.int .i64 0] 3)) 30 [.int .i64 0]
    have a6 := Bx.new (((((w.alloc (.cells #[.pointer (some ⟨p, 0, none⟩)] 25)).alloc (.cells #[.int .i64 c] 3)).alloc (.cells #[.slice none 0 0] 34)).alloc (.cells #[.int .i64 0] 3)).alloc (.cells #[.int .i64 0] 30)) 25 [.pointer (some ⟨p, 0, none⟩)]
    simp only [World.size_alloc, hB] at a1 a2 a3 a4 a5 a6
    refine ⟨_, rfl, ((((a1.alloc _).alloc _).alloc _).alloc _).alloc _, (((a2.alloc _).alloc _).alloc _).alloc _, ((a3.alloc _).alloc _).alloc _, (a4.alloc _).alloc _, a5.alloc _, a6, ?_, ?_⟩
    · exact ((((((Below.refl _ _).alloc (Nat.le_refl _) _).alloc (by simp) _).alloc (by simp; omega) _).alloc (by simp; omega) _).alloc (by simp; omega) _).alloc (by simp; omega) _
    · simp [hB]
  have hL : w.heap.size + 1 + 1 + 1 + 1 + 1 = B + 1 + 1 + 1 + 1 + 1 := by rw [hB]
  try simp only [World.size_alloc]
  rw [hw6]
  simp only [hB]
  have HH6 := Lib.hid (HH.out.below' hbel)
  have hmb : mb < w6.heap.size := HH6.out.map.lt
  have HT3 := Lib.hid t3
  have HRB : Hid (ResB w6 B (.slice none 0 0) 0 0) := ⟨t4, t5, t6⟩
  have HT2 := Lib.hid t2
  have HBL : Hid (Below B w w6) := by rw [← hB]; exact hbel
  have HBB : Hid (B ≤ w.heap.size) := Nat.le_of_eq hB.symm
  have HBX : Hid (w.heap.size ≤ B) := Nat.le_of_eq hB
  have HSZ := Lib.hid hsz
  clear hw6 t2 t3 t4 t5 t6 hL hbel hB hsz
  refine wpIn_rangeFunc_ownH (F := Fence.wide) rfl (by omega) (gf := 90) (lb := #[.pointer (some ⟨B + 1 + 1 + 1 + 1 + 1, 0, none⟩)]) rfl trivial (enters_of Try.func90 (by kernel_rfl) rfl)
    (held_stops 3 (by omega) p k (B + 1 + 1 + 1 + 1 + 1) w6.heap.size s G lv mb F w6 HOK.out HH6.out t7 hmb) (fun h k => KpT.trans h k) (fun W l o o' hl h hc _ => KpT.putObj o' hl h hc) (Below.refl _ _) (fun _ => rfl)
    (fun pre W => NoneYet c pre ∧ Below w6.heap.size w6 W)
    (fun cd pre W => cd = .ret ∧ LeftR s c B w pre W)
    (fun pre A A' row hs hg hr => ⟨hs.1, ownFrom_below (β := Unit) (Nat.le_refl _) (Nat.le_refl _) () A A' row hs.2 hg hr⟩)
    (own_leftR HBB.out (by have := HSZ.out; omega)) ⟨fun y hy => (by cases hy), Below.refl _ _⟩
    (fun x a' W => ∃ xb, Bx W xb 52 (reC x.1) ∧ a' = { tmps := #[.pointer (some ⟨p, 0, none⟩), .int .i64 c, .pointer (some ⟨B, 0, none⟩), .pointer (some ⟨B + 1, 0, none⟩), .pointer (some ⟨B + 1 + 1, 0, none⟩), .pointer (some ⟨B + 1 + 1 + 1, 0, none⟩), .pointer (some ⟨B + 1 + 1 + 1 + 1, 0, none⟩), .pointer (some ⟨xb, 0, none⟩), .bool x.2, .pointer (some ⟨p, 0, none⟩), .func (.func 90) #[] #[.pointer (some ⟨B + 1 + 1 + 1 + 1 + 1, 0, none⟩)], reV x.1, .bool x.2, undef, undef, undef, undef, undef, undef, undef, undef, undef, undef, undef, undef, undef, undef, undef, undef, undef], defers := [] })
    (fun x a' _ A A' row ⟨xb, hx, he⟩ hg hr => ⟨xb, hx.grown hg hr, he⟩) ?assign ?body ?done ?stop
  case assign =>
    rintro l pre ⟨⟨x0, x1, x2, x3, x4⟩, sp⟩ W K ⟨hne, hbW⟩ hK
    have HK := Lib.hid hK
    have hal := below_one W (.cells #[.int .i64 x0, .int .i64 x1, .int .u32 x2, .bool x3, .bool x4] 52)
    have hbx := Bx.new W 52 [.int .i64 x0, .int .i64 x1, .int .u32 x2, .bool x3, .bool x4]
    have HAL := Lib.hid hal
    have HBX := Lib.hid hbx
    have HNE := Lib.hid hne
    have HBW := Lib.hid hbW
    dsimp only [rbE, reV]
    clear hK hal hbx hne hbW
    gi_wp2
    exact HK.out _ _ (keeps_below HAL.out) (KpT.below HAL.out) ⟨HNE.out, HBW.out.trans (HAL.out.mono HBW.out.size)⟩ ⟨_, HBX.out, rfl⟩
  case body =>
    rintro l pre ⟨⟨x0, x1, x2, x3, x4⟩, sp⟩ a' W hl _ ⟨hne, hbW⟩ ⟨xb, hx, rfl⟩ hlt
    dsimp only at hx ⊢
    obtain ⟨d0, d1, d2, d3, d4⟩ := Bx.five hx
    have c3 := (HT3.out.below' hbW).cell 0
    simp only [List.getElem?_cons_zero] at c3
    have HNE := Lib.hid hne
    have HBW := Lib.hid hbW
    have HX : Hid (Bx W xb 52 [.int .i64 x0, .int .i64 x1, .int .u32 x2, .bool x3, .bool x4]) := hx
    have HRBW : Hid (ResB W B (.slice none 0 0) 0 0) := ⟨HRB.out.1.below' hbW, HRB.out.2.1.below' hbW, HRB.out.2.2.below' hbW⟩
    clear hne hbW hx hlt
    by_cases he : x0 = c
    · subst he
      have he' : (x0 != x0) = false := by simp
      cases sp with
      | true =>
        obtain ⟨⟨e1, e2, e3⟩, z1, z2, z3⟩ := HRBW.out.cells
        have R3 := Lib.hid (HRBW.out.set3 (v := .slice none 0 0) (a := 0) (e := 4))
        gi_wp2
        exact ⟨((KeepsOthers.setCell _ _ _).trans ((KeepsOthers.setCell _ _ _).trans (KeepsOthers.setCell _ _ _))).from _, rfl, pre, (x0, x1, x2, x3, x4), true, .slice none 0 0, rfl, HNE.out, rfl, R3.out.1, Own.nil_ _ _ _ _, HBL.out.trans ((HBW.out.mono (by have := HSZ.out; omega)).trans (R3.out.2.below (by have := HBW.out.size; have := HSZ.out; omega) (fun i hi => by omega)))⟩
      | false =>
        have WI : Widish (Fence.wide.inRound l) Try.prog := (Widish.wide _).inRound l
        have hhW := HH6.out.below' HBW.out
        have HS0 : Hid (RdS B p xb mb k x0 (x0, x1, x2, x3, x4) F W.drew) := RdS.below (W := W) ⟨HT2.out.below' HBW.out, HT3.out.below' HBW.out, ⟨_, _, hhW.box⟩, HX.out, hhW.map⟩ (Below.refl W.heap.size W).drew
        have CL := clone_by (F x0 false) (s.f x0 false) W.drew (by have := (HOK.out.bytes x0 false).1; omega) ((hhW.row x0 false HC.out).rd.drew)
        have HCL := Lib.hid CL
        clear hhW CL
        gi_wp2
        refine wpIn_region_held (S := RdS B p xb mb k x0 (x0, x1, x2, x3, x4) F) (by kernel_rfl) ?_
        refine wpAnyHIn_takeD (i := 0) (v := .pointer (some ⟨p, 0, none⟩)) WI (by kernel_rfl) rfl rfl (by kernel_rfl) (by kernel_rfl) (by kernel_rfl) (fun _ _ _ h => h) (Or.inl ⟨rfl, fun w hS => ?_⟩) HS0.out ?_
        · obtain ⟨s1, s2, s3, s4, s5⟩ := hS.facts
          go_simp
        simp only [List.setIfInBounds_toArray, List.set_cons_zero, List.set_cons_succ]
        refine wpAnyHIn_takeD (i := 1) (v := .pointer (some ⟨p, 0, none⟩)) WI (by kernel_rfl) rfl rfl (by kernel_rfl) (by kernel_rfl) (by kernel_rfl) (fun _ _ _ h => h) (Or.inl ⟨rfl, fun w hS => ?_⟩) HS0.out ?_
        · obtain ⟨s1, s2, s3, s4, s5⟩ := hS.facts
          go_simp
        simp only [List.setIfInBounds_toArray, List.set_cons_zero, List.set_cons_succ]
        refine wpAnyHIn_takeD (i := 2) (v := .pointer (some ⟨p, 2, none⟩)) WI (by kernel_rfl) rfl rfl (by kernel_rfl) (by kernel_rfl) (by kernel_rfl) (fun _ _ _ h => h) (Or.inl ⟨rfl, fun w hS => ?_⟩) HS0.out ?_
        · obtain ⟨s1, s2, s3, s4, s5⟩ := hS.facts
          go_simp
        simp only [List.setIfInBounds_toArray, List.set_cons_zero, List.set_cons_succ]
        refine wpAnyHIn_takeD (i := 3) (v := .map (some mb)) WI (by kernel_rfl) rfl rfl (by kernel_rfl) (by kernel_rfl) (by kernel_rfl) (fun _ _ _ h => h) (Or.inl ⟨rfl, fun w hS => ?_⟩) HS0.out ?_
        · obtain ⟨s1, s2, s3, s4, s5⟩ := hS.facts
          go_simp
        simp only [List.setIfInBounds_toArray, List.set_cons_zero, List.set_cons_succ]
        refine wpAnyHIn_takeD (i := 4) (v := .int .i64 x0) WI (by kernel_rfl) rfl rfl (by kernel_rfl) (by kernel_rfl) (by kernel_rfl) (fun _ _ _ h => h) (Or.inl ⟨rfl, fun w hS => ?_⟩) HS0.out ?_
        · obtain ⟨s1, s2, s3, s4, s5⟩ := hS.facts
          go_simp
        simp only [List.setIfInBounds_toArray, List.set_cons_zero, List.set_cons_succ]
        refine wpAnyHIn_takeD (i := 5) (v := plV x0 false) WI (by kernel_rfl) rfl rfl (by kernel_rfl) (by kernel_rfl) (by kernel_rfl) (fun _ _ _ h => h) (Or.inl ⟨rfl, fun w hS => ?_⟩) HS0.out ?_
        · obtain ⟨s1, s2, s3, s4, s5⟩ := hS.facts
          (unfold plV; go_simp)
        simp only [List.setIfInBounds_toArray, List.set_cons_zero, List.set_cons_succ]
        refine wpAnyHIn_takeD (i := 6) (v := F x0 false) WI (by kernel_rfl) rfl rfl (by kernel_rfl) (by kernel_rfl) (by kernel_rfl) (fun _ _ _ h => h) (Or.inl ⟨rfl, fun w hS => ?_⟩) HS0.out ?_
        · obtain ⟨s1, s2, s3, s4, s5⟩ := hS.facts
          exact exec_lookup rfl rfl rfl (s5.run_lookup x0 false HC.out)
        simp only [List.setIfInBounds_toArray, List.set_cons_zero, List.set_cons_succ]
        refine wpAnyHIn_takeD (i := 8) (v := .pointer (some ⟨xb, 1, none⟩)) WI (by kernel_rfl) rfl rfl (by kernel_rfl) (by kernel_rfl) (by kernel_rfl) (fun _ _ _ h => h) (Or.inl ⟨rfl, fun w hS => ?_⟩) HS0.out ?_
        · obtain ⟨s1, s2, s3, s4, s5⟩ := hS.facts
          go_simp
        simp only [List.setIfInBounds_toArray, List.set_cons_zero, List.set_cons_succ]
        refine wpAnyHIn_takeD (i := 9) (v := .int .i64 x1) WI (by kernel_rfl) rfl rfl (by kernel_rfl) (by kernel_rfl) (by kernel_rfl) (fun _ _ _ h => h) (Or.inl ⟨rfl, fun w hS => ?_⟩) HS0.out ?_
        · obtain ⟨s1, s2, s3, s4, s5⟩ := hS.facts
          go_simp
        simp only [List.setIfInBounds_toArray, List.set_cons_zero, List.set_cons_succ]
        refine wpAnyHIn_one (i := 7) (by kernel_rfl) rfl ?_
        gi_wp2_with (refine ⟨trivial, ?_⟩; gi_at_call 62; refine (CallsIn.inRound l (callsIn_wide.2 HCL.out)).mono ?_; rintro e w7 ⟨v7, rfl, ho7, hb7⟩)
        have hb7' : Below W.heap.size W w7 := ((Below.refl W.heap.size W).drew).trans hb7
        have HO7 := Lib.hid ho7
        have HB7 := Lib.hid hb7'
        obtain ⟨A7, cap7, e7⟩ := ho7.slice_
        subst e7
        have HRB7 : Hid (ResB w7 B (.slice none 0 0) 0 0) := ⟨HRBW.out.1.below' hb7', HRBW.out.2.1.below' hb7', HRBW.out.2.2.below' hb7'⟩
        have S7 := Lib.hid (HS0.out.below hb7)
        clear ho7 hb7 hb7' d0 d1 d2 d3 d4 c3
        refine ⟨S7.out, ?_⟩
        obtain ⟨⟨e1, e2, e3⟩, z1, z2, z3⟩ := HRB7.out.cells
        have HRB8 := Lib.hid (HRB7.out.set1 (.slice A7 (s.f x0 false).length cap7))
        have S8 := Lib.hid (S7.out.set HRB7.out (.inl rfl) (.slice A7 (s.f x0 false).length cap7))
        obtain ⟨⟨f1, f2, f3⟩, y1, y2, y3⟩ := HRB8.out.cells
        have HRB9 := Lib.hid (HRB8.out.set2 x1)
        have S9 := Lib.hid (S8.out.set HRB8.out (.inr (.inl rfl)) (.int .i64 x1))
        obtain ⟨⟨g1, g2, g3⟩, v1, v2, v3⟩ := HRB9.out.cells
        have HRB10 := Lib.hid (HRB9.out.set4 0)
        have S10 := Lib.hid (S9.out.set HRB9.out (.inr (.inr rfl)) (.int .i64 0))
        refine wpAnyHIn_one (i := 10) (by kernel_rfl) rfl ?_
        gi_wp2
        refine ⟨S8.out, ?_⟩
        refine wpAnyHIn_one (i := 11) (by kernel_rfl) rfl ?_
        gi_wp2
        refine ⟨S9.out, ?_⟩
        refine wpAnyHIn_one (i := 12) (by kernel_rfl) rfl ?_
        gi_wp2
        refine ⟨S10.out, ?_⟩
        refine wpAnyHIn_done (by kernel_rfl) (noPanic_normal ?_) _
        gi_wp2
        have hf3 := (HRB7.out.set3 (v := .slice A7 (s.f x0 false).length cap7) (a := x1) (e := 0)).2
        have hwB : B + 6 ≤ W.heap.size := by have := HBW.out.size; have := HSZ.out; omega
        have ho10 : Own _ B 5 1 (.slice A7 (s.f x0 false).length cap7) (s.f x0 false).length ((s.f x0 false).flatMap byC) := (HO7.out.mono (base' := B) (by show B ≤ W.heap.size; omega)).fr hf3 (fun g hg hi => by
          have h1 : W.heap.size ≤ g := (HO7.out.blk_lt hg).1
          omega)
        exact ⟨(keeps_below HB7.out).trans (((KeepsOthers.setCell _ _ _).trans ((KeepsOthers.setCell _ _ _).trans (KeepsOthers.setCell _ _ _))).from _), rfl, pre, (x0, x1, x2, x3, x4), false, _, rfl, HNE.out, rfl, HRB10.out, ho10,
          HBL.out.trans (((HBW.out.mono (by have := HSZ.out; omega)).trans (HB7.out.mono (by omega))).trans (hf3.below (by have := HB7.out.size; omega) (fun i hi => by omega)))⟩
    · have he' : (x0 != c) = true := by simpa using he
      have HE := Lib.hid he
      clear he
      gi_wp2
      exact ⟨KeepsFrom.refl _ _, KpT.refl _ _, fun y hy => by
        rcases List.mem_append.1 hy with h1 | h1
        · exact HNE.out y h1
        · rw [List.mem_singleton.1 h1]; exact HE.out, HBW.out⟩
  case done =>
    rintro D ys W hD rfl ⟨hne, hbW⟩ hK
    have HRBW : Hid (ResB W B (.slice none 0 0) 0 0) := ⟨HRB.out.1.below' hbW, HRB.out.2.1.below' hbW, HRB.out.2.2.below' hbW⟩
    obtain ⟨⟨e1, e2, e3⟩, z1, z2, z3⟩ := HRBW.out.cells
    have R3 := Lib.hid (HRBW.out.set3 (v := .slice none 0 0) (a := 0) (e := 5))
    have HNE := Lib.hid (read_none hne)
    have HBW := Lib.hid hbW
    clear hne hbW
    gi_wp2
    have hK' := ((KeepsOthers.setCell W ⟨B + 1 + 1, 0, none⟩ (.slice none 0 0)).trans ((KeepsOthers.setCell _ ⟨B + 1 + 1 + 1, 0, none⟩ (.int .i64 0)).trans (KeepsOthers.setCell _ ⟨B + 1 + 1 + 1 + 1, 0, none⟩ (.int .i64 5)))).same D _ hK rfl
    have hBL := (HBW.out.mono (by have := HSZ.out; omega : B ≤ w6.heap.size)).trans (R3.out.2.below (B := B) (by have := HBW.out.size; have := HSZ.out; omega) (fun i hi => by omega))
    have hres := R3.out.1
    clear R3
    generalize (((W.setCell ⟨B + 1 + 1, 0, none⟩ (.slice none 0 0)).setCell ⟨B + 1 + 1 + 1, 0, none⟩ (.int .i64 0)).setCell ⟨B + 1 + 1 + 1 + 1, 0, none⟩ (.int .i64 5)) = W9 at *
    have hg := grownBy_putObj' W9 D (.deferred none)
    have hr : ∀ r, some D = some r → B ≤ r ∧ ∃ o : Obj, W9.heap[r]? = some o ∧ o.isCells = false := fun r e => by
      injection e with e
      subst e
      exact ⟨by have := HSZ.out; omega, _, hK', rfl⟩
    have hres2 : ResB (W9.putObj D (.deferred none)) B (.slice none 0 0) 0 5 := ⟨hres.1.grown hg hr, hres.2.1.grown hg hr, hres.2.2.grown hg hr⟩
    obtain ⟨⟨q1, q2, q3⟩, _⟩ := hres2.cells
    refine ⟨by simp, .inl ⟨_, _, rfl, run_takeDeferred hK', ?_⟩⟩
    refine ⟨.tuple #[.slice none 0 0, .int .i64 0, .int .i64 5], by simp [results, Try.results21, go_sem, q1, q2, q3], .slice none 0 0, by rw [HNE.out], by rw [HNE.out]; exact Own.nil_ _ _ _ _, ?_⟩
    have hfin := ownFrom_below (β := Unit) HBB.out (Nat.le_refl B) () _ _ (some D) (HBL.out.trans hBL) hg hr
    rw [← Nat.le_antisymm HBB.out HBX.out]
    exact hfin
  case stop =>
    rintro D cd pre W hD hpre ⟨rfl, p0, x, sp, v, rfl, h2, h3, hres, hown, hbW⟩ hK
    have HRS := Lib.hid (read_some hpre h2 h3)
    have HRES := Lib.hid hres
    have HOWN := Lib.hid hown
    have HBW := Lib.hid hbW
    clear h2 hres hown hbW
    gi_wp2
    have hg := grownBy_putObj' W D (.deferred none)
    have hr : ∀ r, some D = some r → B ≤ r ∧ ∃ o : Obj, W.heap[r]? = some o ∧ o.isCells = false := fun r e => by
      injection e with e
      subst e
      exact ⟨by have := HSZ.out; omega, _, hK, rfl⟩
    have hres := HRES.out
    have hown := (HOWN.out.grown hg hr)
    have hres2 : ResB (W.putObj D (.deferred none)) B v (if sp then 0 else x.2.1) (if sp then 4 else 0) := ⟨hres.1.grown hg hr, hres.2.1.grown hg hr, hres.2.2.grown hg hr⟩
    obtain ⟨⟨q1, q2, q3⟩, _⟩ := hres2.cells
    refine ⟨by simp, .inl ⟨_, _, rfl, run_takeDeferred hK, ?_⟩⟩
    have hfin := ownFrom_below (β := Unit) HBB.out (Nat.le_refl B) () _ _ (some D) HBW.out hg hr
    have hbb := Nat.le_antisymm HBB.out HBX.out
    cases sp with
    | true =>
      simp only [if_true] at q1 q2 q3 hown
      have hrs := HRS.out
      simp only [if_true] at hrs
      refine ⟨.tuple #[v, .int .i64 0, .int .i64 4], by simp [results, Try.results21, go_sem, q1, q2, q3], v, by rw [hrs], by rw [hrs, ← hbb]; exact hown, by rw [← hbb]; exact hfin⟩
    | false =>
      simp only [Bool.false_eq_true, if_false] at q1 q2 q3 hown
      have hrs := HRS.out
      simp only [Bool.false_eq_true, if_false] at hrs
      refine ⟨.tuple #[v, .int .i64 x.2.1, .int .i64 0], by simp [results, Try.results21, go_sem, q1, q2, q3], v, by rw [hrs], by rw [hrs, ← hbb]; exact hown, by rw [← hbb]; exact hfin⟩

end Go.Proofs.Ytncgpojjibojlaa

/- server.Scrub: its contract. -/
namespace Go.Proofs.Ytncgpojjibojlaa
open Go Go.RowKit Go.Sort
attribute [local go_sem] Oper.semAt_some

/-- append at []int, inside a fence. -/
theorem wpListIn_app_in {F : Fence} {n : Nat} {w : World} {ops : Array Oper} {rest : List Oper} {o : Oper} {a : Act} {Q : Exit → Act → World → Prop} (hgd : o.guard = none) (s x : Operand)
    (ho : o.op = .call { callee := .builtin .append, args := #[s, x], argTypes := #[29, 29] }) (base : Nat) (v : Value) (l : List Int) (hs : a.eval s = v) (hown : Own w base 3 1 v l.length (l.flatMap inC))
    (src : Value) (m : List Int) (hx : a.eval x = src) (hsrc : Rd w 1 src m.length (m.flatMap inC)) (hlen : l.length + m.length ≤ 1000000) (hbase : base ≤ w.heap.size)
    (h : ∀ v' w', Own w' base 3 1 v' (l ++ m).length ((l ++ m).flatMap inC) → Fr (fun k => blk v = some k) w w' → wpListIn F n Try.prog ops Q rest (a.put o.dst v') w') : wpListIn F n Try.prog ops Q (o :: rest) a w := by
  obtain ⟨ii, hii, hz0, hz1, hz2⟩ := info_parts infoI
  refine wpListIn_plain hgd fun K hK => ?_
  obtain ⟨v', w', hr, h2, h3, _, _⟩ := run_append_seg (P := Try.prog) w base 29 o.type 3 ii _ 1 8 (by kernel_rfl) hii hz0 hz1 hz2 rfl (by omega) v l.length (l.flatMap inC) hown src m.length (m.flatMap inC) hsrc (inC_one m) (by unfold maxLen; omega) (by omega) hbase
  unfold Oper.wpIn
  refine ⟨by simp [Oper.about, ho, resolve, Target.leads, Sem.run_pure], ?_⟩
  rw [Oper.semAt_plain F _ _ (by rw [ho]; intro c hc'; cases hc')]
  simp only [execOp, ho, resolve, invoke, builtin, Sem.run_bind, Sem.run_pure, Result.andThen_ok, List.map_toArray, List.map_cons, List.map_nil, hs, hx, hr]
  refine hK _ _ (h v' w' ?_ h3)
  rw [List.length_append, List.flatMap_append]
  exact h2

/-- Which ones of those that have come are spoilt. -/
def goneOf (pre : List Rb) : List Int := (pre.filter (fun y => y.2)).map (fun y => y.1.1)
theorem goneOf_snoc (pre : List Rb) (x : Rb) : goneOf (pre ++ [x]) = goneOf pre ++ (if x.2 then [x.1.1] else []) := by
  unfold goneOf
  cases h : x.2 <;> simp [h]
theorem goneOf_len (pre : List Rb) : (goneOf pre).length ≤ pre.length := by unfold goneOf; rw [List.length_map]; exact List.length_filter_le _ _
theorem goneOf_full (s : Sv) : goneOf (fullS s) = badS s := by
  unfold goneOf fullS badS
  generalize rstR s.l = l
  induction l with
  | nil => rfl
  | cons x l ih =>
    simp only [List.map_cons, List.filter_cons]
    cases h : spoiltS s x <;> simp [ih]
theorem badS_len {s : Sv} (h : OkS s) : (badS s).length ≤ 16 := by
  rw [← goneOf_full]
  have h1 := goneOf_len (fullS s)
  rw [fullS_len] at h1
  have h2 := List.length_filter_le (fun z : Re => !z.2.2.2.1) s.l
  have h3 := h.l16
  have h4 : (rstR s.l).length = (s.l.filter (fun z : Re => !z.2.2.2.1)).length := by unfold rstR; rw [h.fair]
  omega
/-- The loop's own: its box, the chunks so far. -/
def GoneI (B : Nat) (w : World) (pre : List Rb) (W : World) : Prop := (∃ gv, Bx W B 29 [gv] ∧ Own W B 3 1 gv (goneOf pre).length ((goneOf pre).flatMap inC)) ∧ Below B w W
theorem goneI_own {B C : Nat} {w : World} (hB : B ≤ w.heap.size) (hC : B ≤ C) : OwnFrom C (GoneI B w) := by
  rintro pre A A' row ⟨⟨gv, h1, h2⟩, h3⟩ hg hr
  exact ⟨⟨gv, h1.grown hg hr, h2.grown hg hr⟩, ownFrom_below (β := Unit) hB hC () A A' row h3 hg hr⟩
theorem SrvV.putD {W : World} {G : Nat → Prop} {p k : Nat} {s : Sv} {lv : Value} {mb : Nat} {F : Int → Bool → Value} (h : SrvV W G p k s lv mb F) {D : Nat} {ds : Option (List Deferred)} (hD : W.heap[D]? = some (.deferred ds)) (o' : Obj) : SrvV (W.putObj D o') G p k s lv mb F := by
  have hg := grownBy_putObj' W D o'
  have hr : ∀ r, some D = some r → 0 ≤ r ∧ ∃ o : Obj, W.heap[r]? = some o ∧ o.isCells = false := fun r e => by
    injection e with e
    subst e
    exact ⟨Nat.zero_le _, _, hD, rfl⟩
  exact ⟨h.box.grown hg hr, h.own.grown hg hr, h.map.keep (hg.block mb h.map.lt (fun e => by
    injection e with e
    obtain ⟨es, ck, ho⟩ := h.map.obj
    rw [e, hD] at ho
    cases ho)), fun c t hc => (h.row c t hc).grown hg hr, h.sep, h.gp, h.gm, h.gl, h.gf, fun i hi => Nat.lt_of_lt_of_le (h.lt i hi) hg.size⟩
theorem keeps_two {W W' : World} {B base n : Nat} {gv : Value} {cs xs : List Value} (h1 : Bx W B 29 cs) (h2 : Own W base 3 1 gv n xs) (hf : Fr (fun i => i = B ∨ blk gv = some i) W W') : (∀ C, KeepsFrom C W W') ∧ ∀ n₀, KpT n₀ W W' := by
  have hc : ∀ i, (i = B ∨ blk gv = some i) → ∃ cur t, W.heap[i]? = some (.cells cur t (0, 0)) ∧ (t = 3 ∨ t = 29) := by
    rintro i (rfl | hg)
    · exact ⟨_, _, h1, .inr rfl⟩
    · obtain ⟨cur, hc⟩ := h2.blk_elem hg
      exact ⟨cur, _, hc, .inl rfl⟩
  refine ⟨fun C => ⟨hf.size, fun k o _ hk ho => ?_⟩, fun n₀ => ⟨hf.size, fun i cs' t fr hi h3 h4 => ?_, fun i es c _ hi => ?_⟩⟩
  · refine (hf.block k (Array.getElem?_eq_some_iff.1 hk).1 (fun hs => ?_)).trans hk
    obtain ⟨cur, t, h5, _⟩ := hc k hs
    rw [hk] at h5
    injection h5 with h5
    subst h5
    cases ho
  · refine hf.block i (Array.getElem?_eq_some_iff.1 hi).1 (fun hs => ?_)
    obtain ⟨cur, t', h5, h6⟩ := hc i hs
    rw [hi] at h5
    injection h5 with h5
    injection h5 with _ h7
    rcases h6 with h6 | h6
    · exact h3 (h7.trans h6)
    · exact h4 (h7.trans h6)
  · refine hf.block i (Array.getElem?_eq_some_iff.1 hi).1 (fun hs => ?_)
    obtain ⟨cur, t', h5, _⟩ := hc i hs
    rw [hi] at h5
    cases h5
def ScrubE (G : Nat → Prop) (p k : Nat) (s : Sv) (w : World) (e : Ending) (w' : World) : Prop :=
  ∃ gv G', e = .returned gv ∧ Own w' w.heap.size 3 1 gv (badS s).length ((badS s).flatMap inC) ∧ (∀ g, blk gv = some g → ¬ G' g) ∧ SrvAt w' G' p k (scrS s) ∧ StepG G G' w w'

set_option maxHeartbeats 4000000 in
set_option maxRecDepth 100000 in
theorem sscrub_any (p k : Nat) (s : Sv) (G : Nat → Prop) (w : World) (hok : OkS s) (h : SrvAt w G p k s) :
    Calls Try.prog 49 #[.pointer (some ⟨p, 0, none⟩)] w (ScrubE G p k s w) := by
  obtain ⟨lv, mb, F, h⟩ := h
  have HH := Lib.hid h
  have HOK := Lib.hid hok
  clear h hok
  refine (callsIn_wide (n := 4)).1 ?_
  refine callsIn_of_wp_marks (F := Fence.wide) Try.func49 rfl trivial ?_ rfl
  simp only [Try.ntmps49, List.size_toArray, List.length_cons, List.length_nil, Nat.reduceAdd, Nat.reduceSub, Array.replicate_succ, Array.replicate_zero, List.push_toArray, List.append_toArray, List.nil_append, List.cons_append]
  gi_wp2_with (refine ⟨trivial, ?_⟩; gi_at_call 61; refine (callsIn_wide.2 (sheld_any p _)).mono ?_; rintro e w' ⟨rfl, rfl⟩)
  obtain ⟨B, hB⟩ : ∃ B, w.heap.size = B := ⟨_, rfl⟩
  obtain ⟨w6, hw6, t3, t7, hbel, hsz⟩ : ∃ w6, ((w.alloc (.cells #[.slice none 0 0] 29)).alloc (.cells #[.pointer (some ⟨p, 0, none⟩)] 25)) = w6 ∧
      Bx w6 B 29 [.slice none 0 0] ∧ Bx w6 (B + 1) 25 [.pointer (some ⟨p, 0, none⟩)] ∧ Below w.heap.size w w6 ∧ w6.heap.size = B + 2 := by
    have a1 := Bx.new w 29 [.slice none 0 0]
    have a2 := Bx.new (w.alloc (.cells #[.slice none 0 0] 29)) 25 [.pointer (some ⟨p, 0, none⟩)]
    simp only [World.size_alloc, hB] at a1 a2
    refine ⟨_, rfl, a1.alloc _, a2, ?_, ?_⟩
    · exact ((Below.refl _ _).alloc (Nat.le_refl _) _).alloc (by simp) _
    · simp [hB]
  try simp only [World.size_alloc]
  rw [hw6]
  simp only [hB]
  have HH6 := Lib.hid (HH.out.below' hbel)
  have hmb : mb < w6.heap.size := HH6.out.map.lt
  have HT3 := Lib.hid t3
  have HBL : Hid (Below B w w6) := by rw [← hB]; exact hbel
  have HBB : Hid (B ≤ w.heap.size) := Nat.le_of_eq hB.symm
  have HBX : Hid (w.heap.size ≤ B) := Nat.le_of_eq hB
  have HSZ := Lib.hid hsz
  clear hw6 t3 hbel hB hsz
  refine wpIn_rangeFunc_ownH (F := Fence.wide) rfl (by omega) (gf := 90) (lb := #[.pointer (some ⟨B + 1, 0, none⟩)]) rfl trivial (enters_of Try.func90 (by kernel_rfl) rfl)
    (held_stops 3 (by omega) p k (B + 1) w6.heap.size s G lv mb F w6 HOK.out HH6.out t7 hmb) (fun h k => KpT.trans h k) (fun W l o o' hl h hc _ => KpT.putObj o' hl h hc) (Below.refl _ _) (fun _ => rfl)
    (GoneI B w) (fun _ _ _ => False) (goneI_own HBB.out (by have := HSZ.out; omega)) (fun _ _ _ _ _ hs _ _ => hs) ⟨⟨_, HT3.out, Own.nil_ _ _ _ _⟩, HBL.out⟩
    (fun x a' W => ∃ xb, Bx W xb 52 (reC x.1) ∧ a' = { tmps := #[.pointer (some ⟨p, 0, none⟩), undef, .slice none 0 0, .pointer (some ⟨B, 0, none⟩), .pointer (some ⟨xb, 0, none⟩), .bool x.2, undef, undef, .pointer (some ⟨p, 0, none⟩), .func (.func 90) #[] #[.pointer (some ⟨B + 1, 0, none⟩)], reV x.1, .bool x.2, undef, undef, undef, undef, undef, undef, undef, undef, undef, undef, undef, undef, undef, undef, undef, undef, undef], defers := [] }) (fun x a' _ A A' row ⟨xb, hx, he⟩ hg hr => ⟨xb, hx.grown hg hr, he⟩) ?assign ?body ?done ?stop
  case assign =>
    rintro l pre ⟨⟨x0, x1, x2, x3, x4⟩, sp⟩ W K hI hK
    have HK := Lib.hid hK
    have hal := below_one W (.cells #[.int .i64 x0, .int .i64 x1, .int .u32 x2, .bool x3, .bool x4] 52)
    have hbx := Bx.new W 52 [.int .i64 x0, .int .i64 x1, .int .u32 x2, .bool x3, .bool x4]
    have HAL := Lib.hid hal
    have HBX2 := Lib.hid hbx
    have HI := Lib.hid hI
    dsimp only [rbE, reV]
    clear hK hal hbx hI
    gi_wp2
    have hs : B ≤ W.heap.size := Nat.le_trans HBX.out (Nat.le_trans HBB.out HI.out.2.size) |> fun h => by have := HBB.out; have := HI.out.2.size; omega
    obtain ⟨⟨gv, g1, g2⟩, g3⟩ := HI.out
    exact HK.out _ _ (keeps_below HAL.out) (KpT.below HAL.out) ⟨⟨gv, g1.below' HAL.out, g2.below HAL.out (Nat.le_refl _)⟩, g3.trans (HAL.out.mono hs)⟩ ⟨_, HBX2.out, rfl⟩
  case body =>
    rintro l pre ⟨⟨x0, x1, x2, x3, x4⟩, sp⟩ a' W hl _ hI ⟨xb, hx, rfl⟩ hlt
    dsimp only at hx ⊢
    obtain ⟨d0, d1, d2, d3, d4⟩ := Bx.five hx
    have hsn := goneOf_snoc pre ((x0, x1, x2, x3, x4), sp)
    have hgl := goneOf_len pre
    have hfl : (fullS s).length ≤ 16 := by
      rw [fullS_len]
      have h2 := List.length_filter_le (fun z : Re => !z.2.2.2.1) s.l
      have h3 := HOK.out.l16
      have h4 : (rstR s.l).length = (s.l.filter (fun z : Re => !z.2.2.2.1)).length := by unfold rstR; rw [HOK.out.fair]
      omega
    have HFL : Hid ((goneOf pre).length ≤ 16) := by show _ ≤ 16; omega
    have HI := Lib.hid hI
    have HSN := Lib.hid hsn
    have HX : Hid (Bx W xb 52 [.int .i64 x0, .int .i64 x1, .int .u32 x2, .bool x3, .bool x4]) := hx
    clear hI hx hlt hsn hgl hfl
    cases sp with
    | false =>
      gi_wp2
      refine ⟨KeepsFrom.refl _ _, KpT.refl _ _, ?_⟩
      obtain ⟨⟨gv, g1, g2⟩, g3⟩ := HI.out
      refine ⟨⟨gv, g1, ?_⟩, g3⟩
      rw [HSN.out]
      simpa using g2
    | true =>
      obtain ⟨⟨gv, g1, g2⟩, g3⟩ := HI.out
      obtain ⟨Ag, capg, eg⟩ := g2.slice_
      subst eg
      have G1 := Lib.hid g1
      have G2 := Lib.hid g2
      have G3 := Lib.hid g3
      have hsB : B ≤ W.heap.size := by have := HBB.out; have := g3.size; omega
      have u0 := g1.cell 0
      simp only [List.getElem?_cons_zero] at u0
      have hal := below_one W (.cells #[.int .i64 x0] 3)
      have HAL := Lib.hid hal
      clear g1 g2 g3 hal
      gi_wp2_with (gi_at_builtin; refine wpListIn_app_in rfl (.tmp 13) (.tmp 16) rfl B (.slice Ag (goneOf pre).length capg) (goneOf pre) rfl (G2.out.alloc _) (.slice (some ⟨W.heap.size, 0, none⟩) 1 1) [x0] rfl (rd_one (t := 3) (heap_alloc_new _ _) rfl) (by have := HFL.out; simp; omega) (by simp; omega) ?_; intro v4 w4 hown4 hfr4; obtain ⟨m, hm⟩ : ∃ m, ((goneOf pre) ++ [x0]).length = m := ⟨_, rfl⟩; have HM := Lib.hid hm; rw [hm] at hown4; clear hm; obtain ⟨A4, cap4, e4⟩ := hown4.slice_; subst e4; have HO4 := Lib.hid hown4; have HF4 := Lib.hid hfr4; have hx4 := (G1.out.alloc (.cells #[.int .i64 x0] 3)).fr hfr4 (fun e => by obtain ⟨cur, hc⟩ := G2.out.blk_elem e; have h1 : W.heap[B]? = _ := G1.out; rw [h1] at hc; injection hc with hc; injection hc with _ h3; exact absurd h3 (by decide)); have HX4 := Lib.hid hx4; have t0 := hx4.cell 0; have z4 := hx4.frozen 0; simp only [List.getElem?_cons_zero] at t0; clear hown4 hfr4 hx4)
      have hf5 : Fr (fun i => i = B ∨ blk (.slice Ag (goneOf pre).length capg) = some i) W (w4.setCell ⟨B, 0, none⟩ (.slice A4 m cap4)) :=
        (((Fr.of_below HAL.out).trans HF4.out (fun i hi => .inl (.inr hi)))).thenSet _ _ (.inl (.inl rfl))
      obtain ⟨k1, k2⟩ := keeps_two G1.out G2.out hf5
      refine ⟨k1 _, k2 _, ⟨.slice A4 m cap4, HX4.out.setJ 0 (.slice A4 m cap4), ?_⟩, G3.out.trans (hf5.below hsB (fun i hi => hi.elim (fun e => by omega) (fun e => (G2.out.blk_lt e).1)))⟩
      have e1 := HSN.out
      simp only [if_true] at e1
      rw [e1, HM.out]
      exact HO4.out.fr (Fr.setCell w4 ⟨B, 0, none⟩ _ (fun i => i = B) rfl) (fun g hg e => by
        obtain ⟨cur, hc⟩ := HO4.out.blk_elem hg
        have h1 : w4.heap[B]? = _ := HX4.out
        rw [show g = B from e, h1] at hc
        injection hc with hc
        injection hc with _ h3
        exact absurd h3 (by decide))
  case done =>
    rintro D ys W hD rfl hI hK
    obtain ⟨⟨gv, g1, g2⟩, g3⟩ := hI
    rw [goneOf_full] at g2
    have hbw : Below w.heap.size w W := by rw [Nat.le_antisymm HBX.out HBB.out]; exact g3
    have HHW := Lib.hid (HH.out.below' hbw)
    have HBW := Lib.hid hbw
    obtain ⟨Ag, capg, eg⟩ := g2.slice_
    subst eg
    have hbl := badS_len HOK.out
    obtain ⟨n, hn⟩ : ∃ n, (badS s).length = n := ⟨_, rfl⟩
    have HN := Lib.hid hn
    rw [hn] at g1 g2 hbl
    have G1 := Lib.hid g1
    have G2 := Lib.hid g2
    have u0 := g1.cell 0
    simp only [List.getElem?_cons_zero] at u0
    have hsh := g2.rd.shape
    have HGB : Hid (∀ i, G i → i < B) := fun i hi => by have := HH.out.lt i hi; have := HBX.out; omega
    have HK := Lib.hid hK
    clear g1 g2 g3 hbw hn hK
    gi_wp2
    gi_loopw [20] (fun s20 wr => ∃ j : Nat, j ≤ n ∧ s20 = .int .i64 j ∧ ∃ G', SrvAt wr G' p k (((badS s).take j).foldl (fun s c => (rmvS s c).2) s) ∧ StepG G G' W wr) (fun s20 _ => n - (intOf s20).toNat)
    case atStart => exact ⟨0, Nat.zero_le _, rfl, G, ⟨_, _, _, HHW.out⟩, StepG.refl _ _⟩
    case round =>
      obtain ⟨j, hj, rfl, G', hs', hst⟩ := hrel
      have HS' := Lib.hid hs'
      have HST := Lib.hid hst
      have hgo := hst.own G2.out (fun g hg hG => by have := (G2.out.blk_lt hg).1; have := HGB.out g hG; omega)
      have HG3 := Lib.hid hgo.1
      have HG4 := Lib.hid hgo.2
      clear hs' hst hgo
      by_cases hlt : j < n
      · have hltI : (j : Int) < (n : Int) := by omega
        have hR1 := HG3.out.rd
        obtain ⟨b, off, hA, hbl2⟩ := hR1.addr (by omega)
        subst hA
        have c0 := rd_int hR1 j (by rw [HN.out]; exact hlt)
        have htk := take_at (l := badS s) (i := j) (by rw [HN.out]; exact hlt)
        have hmem := at_mem (l := badS s) (i := j) (by rw [HN.out]; exact hlt)
        obtain ⟨x, hx⟩ : ∃ x, at_ (badS s) j = x := ⟨_, rfl⟩
        rw [hx] at c0 htk hmem
        obtain ⟨y, hy1, _, hy2, _⟩ := (mem_badS HOK.out).1 hmem
        have hnm := HOK.out.named hy1
        rw [hy2] at hnm
        have HW : Hid (wfI x) := wf_i64 (by omega) (by omega)
        have hfo : ((badS s).take (j + 1)).foldl (fun s c => (rmvS s c).2) s = (rmvS (((badS s).take j).foldl (fun s c => (rmvS s c).2) s) x).2 := by rw [htk, List.foldl_append]; rfl
        have HFO := Lib.hid hfo
        have HL : Hid ((((badS s).take j).foldl (fun s c => (rmvS s c).2) s).l.length ≤ 900) := by
          have := (HOK.out.rmvL ((badS s).take j)).l16
          show _ ≤ 900
          omega
        clear hR1 htk hmem hx hy1 hy2 hnm hfo
        gi_wp2_with (refine ⟨trivial, ?_⟩; gi_at_call 52; refine (callsIn_wide.2 (sremove_any p k x _ G' wr HW.out HL.out HS'.out)).mono ?_; rintro e w3 ⟨G3, rfl, h3, hst3⟩; have HS3 := Lib.hid h3; have HST3 := Lib.hid (HST.out.trans hst3); clear h3 hst3)
        go_roundw
        case rel => exact ⟨j + 1, by omega, by go_num, G3, by rw [HFO.out]; exact HS3.out, HST3.out⟩
        case measure => simp [intOf]; omega
      · obtain rfl : j = n := by omega
        have w0 := (G1.out.fr HST.out.1 (fun hG => by have := HGB.out B hG; omega)).cell 0
        simp only [List.getElem?_cons_zero] at w0
        have hK' : wr.heap[D]? = some (.deferred (some [])) := (HST.out.1.block D (Array.getElem?_eq_some_iff.1 HK.out).1 (fun hG => by have := HGB.out D hG; have := HSZ.out; omega)).trans HK.out
        gi_wp2
        refine ⟨by simp, .inl ⟨_, _, rfl, run_takeDeferred hK', ?_⟩⟩
        have hg := grownBy_putObj' wr D (.deferred none)
        have hr : ∀ r, some D = some r → B ≤ r ∧ ∃ o : Obj, wr.heap[r]? = some o ∧ o.isCells = false := fun r e => by
          injection e with e
          subst e
          exact ⟨by have := HSZ.out; omega, _, hK', rfl⟩
        have ht : (badS s).take j = badS s := by rw [← HN.out, List.take_length]
        obtain ⟨lv', mb', F', hs'⟩ := HS'.out
        have hs2 := hs'.putD hK' (.deferred none)
        rw [ht] at hs2
        have hst2 : StepG G G' w (wr.putObj D (.deferred none)) := by
          have h1 : StepG G G' w wr := (StepG.below HBW.out).trans HST.out
          refine ⟨h1.1.trans (T := fun i => i = D) ⟨hg.os, hg.tape, hg.output, hg.size, fun i hi hn => hg.block i hi (fun e => hn (by injection e))⟩ (fun i hi => .inr ?_), h1.2⟩
          have := HSZ.out
          have := HBX.out
          rw [show i = D from hi]
          omega
        refine ⟨_, results_tmp rfl _ _ _, .slice Ag j capg, G', rfl, ?_, HG4.out, ⟨lv', mb', F', hs2⟩, hst2⟩
        rw [HN.out]
        exact (HG3.out.grown hg hr).mono HBX.out
  case stop =>
    rintro D cd pre W _ _ h _
    exact h.elim

end Go.Proofs.Ytncgpojjibojlaa

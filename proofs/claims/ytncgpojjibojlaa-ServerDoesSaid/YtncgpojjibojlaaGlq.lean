/- The document's server in memory; its data: the contract. -/
import Derived.Test.YtncgpojjibojlaaDoes11q
import Derived.Test.YtncgpojjibojlaaGkq
import Derived.Test.YtncgpojjibojlaaRf6q
import Derived.Test.YtncgpojjibojlaaGcq
namespace Go.Proofs.Ytncgpojjibojlaa
open Go Go.RowKit Go.Sort

/-- A part: its chunk, whether it is being installed, its slice, its bytes. -/
structure Pt where
  c : Int
  t : Bool
  A : Option Addr
  cap : Nat
  d : List Nat
instance : Inhabited Pt := ⟨⟨0, false, none, 0, []⟩⟩
def Pt.v (x : Pt) : Value := .slice x.A x.d.length x.cap
def ptC (x : Pt) : List Value := [.int .i64 x.c, .bool x.t, .slice x.A x.d.length x.cap]
theorem ptC_len (x : Pt) : (ptC x).length = 3 := rfl
theorem ptC_one (l : List Pt) : ∀ u ∈ l.flatMap ptC, u.oneCell' = true := by
  intro u hu
  obtain ⟨x, _, hx⟩ := List.mem_flatMap.1 hu
  simp [ptC] at hx
  rcases hx with rfl | rfl | rfl <;> rfl
theorem rd_pt {w : World} {b off cap n : Nat} {l : List Pt} (h : Rd w 3 (.slice (some ⟨b, off, none⟩) n cap) n (l.flatMap ptC)) (i : Nat) (hi : i < l.length) :
    w.cell? ⟨b, off + i * 3, none⟩ = some (.int .i64 (at_ l i).c) ∧ w.cell? ⟨b, off + i * 3 + 1, none⟩ = some (.bool (at_ l i).t) ∧ w.cell? ⟨b, off + i * 3 + 1 + 1, none⟩ = some (.slice (at_ l i).A (at_ l i).d.length (at_ l i).cap) := by
  have hn : n = l.length := by have := h.1; rw [flat_len ptC 3 ptC_len] at this; omega
  obtain ⟨b', off', cap', hv, _, _, _, hc⟩ := h.form (by omega)
  injection hv with h1 h2 h3
  injection h1 with h1
  injection h1 with h4 h5
  subst h4 h5
  have hg := at_get hi
  have f0 := flat_get ptC 3 ptC_len l i 0 (by omega)
  have f1 := flat_get ptC 3 ptC_len l i 1 (by omega)
  have f2 := flat_get ptC 3 ptC_len l i 2 (by omega)
  rw [hg] at f0 f1 f2
  exact ⟨hc _ _ f0, hc _ _ f1, hc _ _ f2⟩
/-- The bytes of a place. -/
def getP (ps : List Pt) (c : Int) (t : Bool) : List Nat := match ps.find? (fun x => x.c == c && x.t == t) with
  | none => []
  | some x => x.d
/-- The document's server in memory: its box, its replicas, its parts; H: the blocks that are its own; only the box is ever turned. -/
structure RsV (w : World) (H : Nat → Prop) (q k : Nat) (r : Sv) (lv pv : Value) (ps : List Pt) : Prop where
  box : Bx w q 46 [.int .i64 r.room, lv, pv]
  own : Own w 0 52 5 lv r.l.length (r.l.flatMap reC)
  par : Own w 0 109 3 pv ps.length (ps.flatMap ptC)
  row : ∀ x ∈ ps, Own w 0 5 1 x.v x.d.length (x.d.flatMap byC) ∧ okB x.d ∧ x.d.length ≤ 1000
  get : ∀ c t, getP ps c t = r.f c t
  hq : H q
  hl : ∀ g, blk lv = some g → H g
  hp : ∀ g, blk pv = some g → H g
  hr : ∀ x ∈ ps, ∀ g, blk x.v = some g → H g
  cnt : ps.length ≤ k
  lt : ∀ i, H i → i < w.heap.size
def RsAt (w : World) (H : Nat → Prop) (q k : Nat) (r : Sv) : Prop := ∃ lv pv ps, RsV w H q k r lv pv ps

theorem Own.neBx {w : World} {b size n q : Nat} {e t : TypeId} {v : Value} {xs cs : List Value} (h : Own w b e size v n xs) (hb : Bx w q t cs) (hn : t ≠ e) : ∀ g, blk v = some g → g ≠ q := fun g hg e' => by
  obtain ⟨cur, h2⟩ := h.blk_elem hg
  have h1 : w.heap[q]? = _ := hb
  rw [e', h1] at h2
  injection h2 with h2
  injection h2 with _ h3
  exact hn h3
section
variable {w w' : World} {H : Nat → Prop} {q k : Nat} {r : Sv} {lv pv : Value} {ps : List Pt}
theorem RsV.fr {S : Nat → Prop} (h : RsV w H q k r lv pv ps) (hf : Fr S w w') (hn : ∀ i, H i → ¬ S i) : RsV w' H q k r lv pv ps :=
  ⟨h.box.fr hf (hn _ h.hq), h.own.fr hf (fun g hg => hn g (h.hl g hg)), h.par.fr hf (fun g hg => hn g (h.hp g hg)), fun x hx => ⟨(h.row x hx).1.fr hf (fun g hg => hn g (h.hr x hx g hg)), (h.row x hx).2⟩, h.get, h.hq, h.hl, h.hp, h.hr, h.cnt, fun i hi => Nat.lt_of_lt_of_le (h.lt i hi) hf.size⟩
theorem RsV.below' (h : RsV w H q k r lv pv ps) (hb : Below w.heap.size w w') : RsV w' H q k r lv pv ps := h.fr (Fr.of_below (S := fun _ => False) hb) (fun _ _ hf => hf)
theorem RsAt.fr {S : Nat → Prop} (h : RsAt w H q k r) (hf : Fr S w w') (hn : ∀ i, H i → ¬ S i) : RsAt w' H q k r := by
  obtain ⟨lv, pv, ps, h⟩ := h
  exact ⟨lv, pv, ps, h.fr hf hn⟩
theorem RsAt.below_ (h : RsAt w H q k r) (hb : Below w.heap.size w w') : RsAt w' H q k r := by
  obtain ⟨lv, pv, ps, h⟩ := h
  exact ⟨lv, pv, ps, h.below' hb⟩
theorem RsV.mono {m : Nat} (h : RsV w H q k r lv pv ps) (hm : k ≤ m) : RsV w H q m r lv pv ps := ⟨h.box, h.own, h.par, h.row, h.get, h.hq, h.hl, h.hp, h.hr, Nat.le_trans h.cnt hm, h.lt⟩
/-- Its box is turned: what is in it now was laid ahead. -/
theorem RsV.next {H' : Nat → Prop} {k' : Nat} {r' : Sv} {lv' pv' : Value} {ps' : List Pt} {cs0 : List Value} (hb : Bx w' q 46 [.int .i64 r'.room, lv', pv']) (hb0 : Bx w q 46 cs0) (hf : Fr (fun i => i = q) w w')
    (ho : Own w 0 52 5 lv' r'.l.length (r'.l.flatMap reC)) (hp : Own w 0 109 3 pv' ps'.length (ps'.flatMap ptC)) (hr : ∀ x ∈ ps', Own w 0 5 1 x.v x.d.length (x.d.flatMap byC) ∧ okB x.d ∧ x.d.length ≤ 1000)
    (hget : ∀ c t, getP ps' c t = r'.f c t) (hq : H' q) (hl : ∀ g, blk lv' = some g → H' g) (hpv : ∀ g, blk pv' = some g → H' g) (hrow : ∀ x ∈ ps', ∀ g, blk x.v = some g → H' g) (cnt : ps'.length ≤ k') (lt : ∀ i, H' i → i < w.heap.size) : RsV w' H' q k' r' lv' pv' ps' :=
  ⟨hb, ho.fr hf (ho.neBx hb0 (by decide)), hp.fr hf (hp.neBx hb0 (by decide)), fun x hx => ⟨(hr x hx).1.fr hf ((hr x hx).1.neBx hb0 (by decide)), (hr x hx).2⟩, hget, hq, hl, hpv, hrow, cnt, fun i hi => Nat.lt_of_lt_of_le (lt i hi) hf.size⟩
end

/-- The bytes of a place, as a slice of the server's own. -/
def DatE (w : World) (H : Nat → Prop) (d : List Nat) (e : Ending) (w' : World) : Prop := w = w' ∧ okB d ∧ d.length ≤ 1000 ∧ ∃ v, e = .returned v ∧ Own w 0 5 1 v d.length (d.flatMap byC) ∧ ∀ g, blk v = some g → H g
theorem find_at_hit {ps : List Pt} {f : Pt → Bool} {i : Nat} (hi : i < ps.length) (hn : ∀ j, j < i → f (at_ ps j) = false) (hh : f (at_ ps i) = true) : ps.find? f = some (at_ ps i) := by
  induction ps generalizing i with
  | nil => simp at hi
  | cons x xs ih =>
    cases i with
    | zero =>
      have : at_ (x :: xs) 0 = x := rfl
      rw [this] at hh ⊢
      rw [List.find?_cons_of_pos hh]
    | succ i =>
      have h0 : f x = false := hn 0 (by omega)
      rw [List.find?_cons_of_neg (by rw [h0]; simp)]
      have e : ∀ j, at_ (x :: xs) (j + 1) = at_ xs j := fun j => by simp [at_]
      rw [e] at hh ⊢
      refine ih (by simpa using hi) (fun j hj => ?_) hh
      have := hn (j + 1) (by omega)
      rw [e] at this
      exact this
theorem find_at_none {ps : List Pt} {f : Pt → Bool} (hn : ∀ j, j < ps.length → f (at_ ps j) = false) : ps.find? f = none := by
  rw [List.find?_eq_none]
  intro x hx
  obtain ⟨j, hj, rfl⟩ := List.getElem_of_mem hx
  have := hn j hj
  rw [at_eq hj] at this
  simp [this]

set_option maxHeartbeats 2000000 in
set_option maxRecDepth 100000 in
theorem rdata_any (q k : Nat) (c : Int) (t : Bool) (r : Sv) (H : Nat → Prop) (w : World) (hk : k ≤ 1000) (h : RsAt w H q k r) :
    Calls Try.prog 65 #[.pointer (some ⟨q, 0, none⟩), .int .i64 c, .bool t] w (DatE w H (r.f c t)) := by
  obtain ⟨lv, pv, ps, h⟩ := h
  rw [← h.get c t]
  obtain ⟨q0, q1, q2⟩ := h.box.three
  obtain ⟨A, cap, hv⟩ := h.par.slice_
  have HP := Lib.hid h.par.rd
  have HROW := Lib.hid h.row
  have HRR := Lib.hid h.hr
  have hcnt := h.cnt
  subst hv
  obtain ⟨n, hn⟩ : ∃ n, ps.length = n := ⟨_, rfl⟩
  have HN := Lib.hid hn
  rw [hn] at HP q2 hcnt
  clear h q0 q1 hn
  go_enter Try.func65, Try.ntmps65
  go_wp2_with fail
  go_loopw [7] (fun s7 wr => ∃ i : Nat, i ≤ n ∧ s7 = .int .i64 i ∧ wr = w ∧ ∀ j, j < i → ((at_ ps j).c == c && (at_ ps j).t == t) = false) (fun s7 _ => n - (intOf s7).toNat)
  case atStart => exact ⟨0, Nat.zero_le _, rfl, rfl, fun _ h => absurd h (by omega)⟩
  case round =>
    obtain ⟨i, hi, rfl, rfl, hall⟩ := hrel
    have HALL := Lib.hid hall
    clear hall
    by_cases hlt : i < n
    · have hltI : (i : Int) < (n : Int) := by omega
      obtain ⟨b, off, hA, hbl⟩ := HP.out.addr (by omega)
      subst hA
      obtain ⟨c0, c1, c2⟩ := rd_pt HP.out i (by rw [HN.out]; exact hlt)
      obtain ⟨x, hx⟩ : ∃ x, at_ ps i = x := ⟨_, rfl⟩
      have hm := at_mem (l := ps) (i := i) (by rw [HN.out]; exact hlt)
      have HX := Lib.hid hx
      rw [hx] at c0 c1 c2 hm
      have HM := Lib.hid hm
      obtain ⟨xc, xt, xA, xcap, xd⟩ := x
      dsimp only at c0 c1 c2
      clear hx hm
      by_cases hc : xc = c
      · subst hc
        by_cases ht : xt = t
        · subst ht
          have HG : Hid (getP ps xc xt = xd) := by
            unfold getP
            rw [find_at_hit (i := i) (by rw [HN.out]; exact hlt) HALL.out (by rw [HX.out]; simp), HX.out]
            exact Lib.hid rfl
          go_wp2_with fail
          go_ret
          rw [HG.out]
          exact ⟨rfl, (HROW.out _ HM.out).2.1, (HROW.out _ HM.out).2.2, _, rfl, (HROW.out _ HM.out).1, HRR.out _ HM.out⟩
        · have htI : (xt == t) = false := by simpa using ht
          go_wp2_with fail
          go_roundw
          case rel =>
            refine ⟨i + 1, by omega, by go_num, by trivial, fun j hj => ?_⟩
            by_cases e : j = i
            · rw [e, HX.out]
              simp [htI]
            · exact HALL.out j (by omega)
          case measure => simp [intOf]; omega
      · have hcI : (xc == c) = false := by simpa using hc
        go_wp2_with fail
        go_roundw
        case rel =>
          refine ⟨i + 1, by omega, by go_num, by trivial, fun j hj => ?_⟩
          by_cases e : j = i
          · rw [e, HX.out]
            simp [hcI]
          · exact HALL.out j (by omega)
        case measure => simp [intOf]; omega
    · have hltI : ¬ ((i : Int) < (n : Int)) := by omega
      have HG : Hid (getP ps c t = []) := by
        unfold getP
        rw [find_at_none (fun j hj => HALL.out j (by have := HN.out; omega))]
        exact Lib.hid rfl
      go_wp2_with fail
      go_ret
      rw [HG.out]
      exact ⟨rfl, okB_nil, by simp, _, rfl, Own.nil_ _ _ _ _, fun g hg => by cases hg⟩

end Go.Proofs.Ytncgpojjibojlaa

/- The document's server: set. -/
namespace Go.Proofs.Ytncgpojjibojlaa
open Go Go.RowKit Go.Sort

theorem info_pt : (Try.prog.info? 109).map (fun i => (i.zero, i.size, i.bytes)) = some (some (.agg #[.int .i64 0, .bool false, .slice none 0 0]), 3, 40) := by kernel_rfl
theorem wpList_app_pt {w : World} {ops : Array Oper} {rest : List Oper} {o : Oper} {a : Act} {Q : Exit → Act → World → Prop} (hgd : o.guard = none) (s x : Operand)
    (ho : o.op = .call { callee := .builtin .append, args := #[s, x], argTypes := #[44, 44] }) (base : Nat) (v : Value) (l : List Pt) (hs : a.eval s = v) (hown : Own w base 109 3 v l.length (l.flatMap ptC))
    (src : Value) (m : List Pt) (hx : a.eval x = src) (hsrc : Rd w 3 src m.length (m.flatMap ptC)) (hlen : l.length + m.length ≤ 100000) (hbase : base ≤ w.heap.size)
    (h : ∀ v' w', Own w' base 109 3 v' (l ++ m).length ((l ++ m).flatMap ptC) → Fr (fun k => blk v = some k) w w' → (blk v' = blk v ∨ blk v' = some w.heap.size) → Below base w w' → wpList Try.prog ops Q rest (a.put o.dst v') w') : wpList Try.prog ops Q (o :: rest) a w := by
  obtain ⟨ii, hii, hz0, hz1, hz2⟩ := info_parts info_pt
  refine wpList_append_seg hgd s x 44 ho base 109 ii _ 3 40 (by kernel_rfl) hii hz0 hz1 hz2 rfl (by omega) v l.length (l.flatMap ptC) hs hown src m.length (m.flatMap ptC) hx hsrc (ptC_one m) (by unfold maxLen; omega) (by omega) hbase ?_
  intro v' w' hown' hfr hbk _
  refine h v' w' ?_ hfr hbk (hfr.below hbase (fun k hk => (hown.blk_lt hk).1))
  rw [List.length_append, List.flatMap_append]
  exact hown'
theorem wpList_app_by {w : World} {ops : Array Oper} {rest : List Oper} {o : Oper} {a : Act} {Q : Exit → Act → World → Prop} (hgd : o.guard = none) (s x : Operand)
    (ho : o.op = .call { callee := .builtin .append, args := #[s, x], argTypes := #[34, 34] }) (hs : a.eval s = .slice none 0 0)
    (src : Value) (m : List Nat) (hx : a.eval x = src) (hsrc : Rd w 1 src m.length (m.flatMap byC)) (hlen : m.length ≤ 100000)
    (h : ∀ v' w', Own w' w.heap.size 5 1 v' m.length (m.flatMap byC) → Below w.heap.size w w' → wpList Try.prog ops Q rest (a.put o.dst v') w') : wpList Try.prog ops Q (o :: rest) a w := by
  obtain ⟨ii, hii, hz0, hz1, hz2⟩ := info_parts info_by
  refine wpList_append_seg hgd s x 34 ho w.heap.size 5 ii _ 1 1 (by kernel_rfl) hii hz0 hz1 hz2 rfl (by omega) (.slice none 0 0) 0 [] hs (Own.nil_ _ _ _ _) src m.length (m.flatMap byC) hx hsrc (byC_one m) (by unfold maxLen; omega) (by omega) (Nat.le_refl _) ?_
  intro v' w' hown' hfr _ _
  refine h v' w' ?_ (hfr.below (Nat.le_refl _) (fun k hk => by cases hk))
  simpa using hown'
theorem rd_pt1 {w : World} {b : Nat} {t : TypeId} (x : Pt) (hb : Bx w b t (ptC x)) : Rd w 3 (.slice (some ⟨b, 0, none⟩) 1 1) [x].length ([x].flatMap ptC) :=
  ⟨by simp [ptC_len], _, _, rfl, Nat.le_refl _, by unfold maxLen; decide, fun _ => ⟨b, 0, rfl, hb.lt, fun j u hj => by
    rw [Nat.zero_add, hb.cell]
    simpa using hj⟩⟩

/-- Another place than this. -/
def offP (c : Int) (t : Bool) (x : Pt) : Bool := !(x.c == c && x.t == t)
theorem filtP_snoc (p : Pt → Bool) (l : List Pt) (x : Pt) : (l ++ [x]).filter p = l.filter p ++ (if p x then [x] else []) := by
  rw [List.filter_append]
  congr 1
  cases h : p x <;> simp [h]
theorem getP_set {ps : List Pt} {x : Pt} (c : Int) (t : Bool) (f : Int → Bool → List Nat) (h : ∀ c t, getP ps c t = f c t) : getP (ps.filter (offP x.c x.t) ++ [x]) c t = upF f x.c x.t x.d c t := by
  by_cases e : c = x.c ∧ t = x.t
  · obtain ⟨rfl, rfl⟩ := e
    rw [upF_same]
    unfold getP
    rw [List.find?_append]
    have : (ps.filter (offP x.c x.t)).find? (fun y => y.c == x.c && y.t == x.t) = none := by
      rw [List.find?_eq_none]
      intro y hy hh
      have := (List.mem_filter.1 hy).2
      unfold offP at this
      rw [hh] at this
      simp at this
    rw [this]
    simp
  · rw [upF_other _ _ e, ← h c t]
    unfold getP
    rw [List.find?_append]
    have hx : (x.c == c && x.t == t) = false := by
      rw [Bool.eq_false_iff]
      intro hh
      rw [Bool.and_eq_true] at hh
      exact e ⟨(by simpa using hh.1 : x.c = c).symm, (by simpa using hh.2 : x.t = t).symm⟩
    have hn : [x].find? (fun y => y.c == c && y.t == t) = none := by
      rw [List.find?_eq_none]
      intro y hy
      rw [List.mem_singleton.1 hy, hx]
      simp
    have hf : (ps.filter (offP x.c x.t)).find? (fun y => y.c == c && y.t == t) = ps.find? (fun y => y.c == c && y.t == t) := by
      rw [List.find?_filter]
      congr 1
      funext y
      unfold offP
      by_cases h1 : (y.c == c && y.t == t) = true
      · rw [h1]
        have h2 : (y.c == x.c && y.t == x.t) = false := by
          rw [Bool.eq_false_iff]
          intro hh
          rw [Bool.and_eq_true] at hh h1
          have a1 : y.c = x.c := by simpa using hh.1
          have a2 : y.t = x.t := by simpa using hh.2
          have a3 : y.c = c := by simpa using h1.1
          have a4 : y.t = t := by simpa using h1.2
          exact e ⟨a3.symm.trans a1, a4.symm.trans a2⟩
        rw [h2]
        simp
      · rw [Bool.eq_false_iff.2 h1]
        simp
    rw [hf, hn]
    cases ps.find? (fun y => y.c == c && y.t == t) <;> rfl

def RsE (H : Nat → Prop) (q k : Nat) (r : Sv) (v : Value) (w : World) (e : Ending) (w' : World) : Prop := ∃ H', e = .returned v ∧ RsAt w' H' q k r ∧ StepG H H' w w'

set_option maxHeartbeats 4000000 in
set_option maxRecDepth 100000 in
theorem rset_any (q k : Nat) (c : Int) (t : Bool) (dv : Value) (d : List Nat) (r : Sv) (H : Nat → Prop) (w : World) (hk : k ≤ 1000) (hD : Rd w 1 dv d.length (d.flatMap byC)) (hok : okB d) (hdl : d.length ≤ 1000) (h : RsAt w H q k r) :
    Calls Try.prog 89 #[.pointer (some ⟨q, 0, none⟩), .int .i64 c, .bool t, dv] w (RsE H q (k + 1) ⟨r.room, r.l, upF r.f c t d⟩ (.tuple #[]) w) := by
  obtain ⟨lv, pv, ps, h⟩ := h
  have HH := Lib.hid h
  have HOKD : Hid (okB d ∧ d.length ≤ 1000) := ⟨hok, hdl⟩
  obtain ⟨Ad, capd, hv, _, hncd⟩ := hD.shape
  subst hv
  obtain ⟨A, cap, hv⟩ := h.par.slice_
  subst hv
  have hcnt := h.cnt
  have HD := Lib.hid hD
  obtain ⟨n, hn⟩ : ∃ n, ps.length = n := ⟨_, rfl⟩
  have HN := Lib.hid hn
  obtain ⟨nd, hnd⟩ : ∃ n, d.length = n := ⟨_, rfl⟩
  have HND := Lib.hid hnd
  rw [hnd] at hncd
  have HDn : Hid (Rd w 1 (.slice Ad nd capd) d.length (d.flatMap byC)) := by have := HD.out; rw [hnd] at this ⊢; exact this
  rw [hnd]
  have HPAR : Hid (Rd w 3 (.slice A n cap) n (ps.flatMap ptC)) := by have := h.par.rd; rw [hn] at this; exact this
  have HBX : Hid (Bx w q 46 [.int .i64 r.room, lv, .slice A n cap]) := by have := h.box; rw [hn] at this; exact this
  rw [hn] at hcnt
  clear h hD hok hdl HD hn hnd
  go_enter Try.func89, Try.ntmps89
  go_wp2_with fail
  go_loopw [8, 9] (fun s8 s9 wr => ∃ i : Nat, i ≤ n ∧ s9 = .int .i64 i ∧ Own wr w.heap.size 109 3 s8 ((ps.take i).filter (offP c t)).length (((ps.take i).filter (offP c t)).flatMap ptC) ∧ Below w.heap.size w wr) (fun _ s9 _ => n - (intOf s9).toNat)
  case atStart => exact ⟨0, Nat.zero_le _, rfl, by rw [List.take_zero]; exact Own.nil_ _ _ _ _, Below.refl _ _⟩
  case round =>
    obtain ⟨i, hi, rfl, hown, hbel⟩ := hrel
    obtain ⟨A8, cap8, hv8⟩ := hown.slice_
    subst hv8
    have HO := Lib.hid hown
    have HB := Lib.hid hbel
    have hsr := hbel.size
    have HSR := Lib.hid hsr
    have hql : ((ps.take i).filter (offP c t)).length ≤ i := Nat.le_trans (List.length_filter_le _ _) (by rw [List.length_take]; omega)
    obtain ⟨l8, hq⟩ : ∃ l8, (ps.take i).filter (offP c t) = l8 := ⟨_, rfl⟩
    have HQ := Lib.hid hq
    rw [hq] at hql HO ⊢
    have HBXr := Lib.hid (HBX.out.below' HB.out)
    obtain ⟨q0, q1, q2⟩ := HBXr.out.three
    clear hown hbel hq q0 q1
    by_cases hlt : i < n
    · have hltI : (i : Int) < (n : Int) := by omega
      have hR1 := HPAR.out.below HB.out (Nat.le_refl _)
      obtain ⟨b, off, hA, hbl⟩ := hR1.addr (by omega)
      subst hA
      obtain ⟨c0, c1, c2⟩ := rd_pt hR1 i (by rw [HN.out]; exact hlt)
      obtain ⟨x, hx⟩ : ∃ x, at_ ps i = x := ⟨_, rfl⟩
      rw [hx] at c0 c1 c2
      have htk := take_at (l := ps) (i := i) (by rw [HN.out]; exact hlt)
      rw [hx] at htk
      have hs := filtP_snoc (offP c t) (ps.take i) x
      rw [← htk, HQ.out] at hs
      have HS := Lib.hid hs
      clear hx hR1 htk hs hbl
      obtain ⟨xc, xt, xA, xcap, xd⟩ := x
      dsimp only at c0 c1 c2
      obtain ⟨xn, hxn⟩ : ∃ m, xd.length = m := ⟨_, rfl⟩
      have HXN := Lib.hid hxn
      rw [hxn] at c2
      clear hxn
      by_cases hsame : xc = c ∧ xt = t
      · obtain ⟨rfl, rfl⟩ := hsame
        have HS2 : Hid ((ps.take (i + 1)).filter (offP xc xt) = l8) := by have := HS.out; rw [show offP xc xt ⟨xc, xt, xA, xcap, xd⟩ = false by simp [offP]] at this; exact Lib.hid (by simpa using this)
        clear HS
        go_wp2_with fail
        go_roundw
        case rel => exact ⟨i + 1, by omega, by go_num, by rw [HS2.out]; exact HO.out, HB.out⟩
        case measure => simp [intOf]; omega
      · have hoff : offP c t ⟨xc, xt, xA, xcap, xd⟩ = true := by
          unfold offP
          by_cases h1 : xc = c
          · have h2 : xt ≠ t := fun h => hsame ⟨h1, h⟩
            simp [h2]
          · simp [h1]
        have HS2 : Hid ((ps.take (i + 1)).filter (offP c t) = l8 ++ [⟨xc, xt, xA, xcap, xd⟩]) := by have := HS.out; rw [hoff] at this; exact Lib.hid (by simpa using this)
        have HPX : Hid (ptC ⟨xc, xt, xA, xcap, xd⟩ = [.int .i64 xc, .bool xt, .slice xA xn xcap]) := by
          unfold ptC
          rw [HXN.out]
          exact Lib.hid rfl
        clear HS hoff
        by_cases hc : xc = c
        · subst hc
          have ht : xt ≠ t := fun h => hsame ⟨rfl, h⟩
          have htI : (xt == t) = false := by simpa using ht
          have htI2 : (xt != t) = true := by simpa using ht
          clear hsame ht
          go_wp2_with (at_builtin; refine wpList_app_pt rfl (.tmp 41) (.tmp 49) rfl w.heap.size (.slice A8 l8.length cap8) l8 rfl (HO.out.alloc _) (.slice (some ⟨wr.heap.size, 0, none⟩) 1 1) [⟨xc, xt, xA, xcap, xd⟩] rfl (rd_pt1 _ (by rw [HPX.out]; exact Bx.new wr 109 [.int .i64 xc, .bool xt, .slice xA xn xcap])) (by simp; omega) (by simp; have := HSR.out; omega) ?_; intro v4 w4 hown4 _ _ hb4; have HO4 := Lib.hid hown4; have HB4 := Lib.hid hb4; clear hown4 hb4)
          go_roundw
          case rel => exact ⟨i + 1, by omega, by go_num, by rw [HS2.out]; exact HO4.out, (HB.out.alloc HSR.out _).trans HB4.out⟩
          case measure => simp [intOf]; omega
        · have hcI : (xc == c) = false := by simpa using hc
          have hcI2 : (xc != c) = true := by simpa using hc
          go_wp2_with (at_builtin; refine wpList_app_pt rfl (.tmp 41) (.tmp 49) rfl w.heap.size (.slice A8 l8.length cap8) l8 rfl (HO.out.alloc _) (.slice (some ⟨wr.heap.size, 0, none⟩) 1 1) [⟨xc, xt, xA, xcap, xd⟩] rfl (rd_pt1 _ (by rw [HPX.out]; exact Bx.new wr 109 [.int .i64 xc, .bool xt, .slice xA xn xcap])) (by simp; omega) (by simp; have := HSR.out; omega) ?_; intro v4 w4 hown4 _ _ hb4; have HO4 := Lib.hid hown4; have HB4 := Lib.hid hb4; clear hown4 hb4)
          go_roundw
          case rel => exact ⟨i + 1, by omega, by go_num, by rw [HS2.out]; exact HO4.out, (HB.out.alloc HSR.out _).trans HB4.out⟩
          case measure => simp [intOf]; omega
    · obtain rfl : i = n := by omega
      have HQL : Hid (ps.filter (offP c t) = l8) := by have := HQ.out; rw [← HN.out, List.take_length] at this; exact Lib.hid this
      have HRD := Lib.hid (HDn.out.below HB.out (Nat.le_refl _))
      clear HQ
      go_wp2_with (first
        | (at_builtin; refine wpList_app_by rfl (.const (.slice none 0 0)) (.tmp 54) rfl rfl _ d rfl HRD.out (by have := HOKD.out.2; omega) ?_; intro v5 w5 hown5 hb5; obtain ⟨A5, cap5, e5⟩ := hown5.slice_; subst e5; have HO5 := Lib.hid hown5; have HB5 := Lib.hid hb5; have HO5b := Lib.hid (HO.out.below hb5 (Nat.le_refl _)); clear hown5 hb5)
        | (at_builtin; refine wpList_app_pt rfl (.tmp 51) (.tmp 57) rfl w.heap.size (.slice A8 l8.length cap8) l8 rfl (HO5b.out.alloc _) (.slice (some ⟨w5.heap.size, 0, none⟩) 1 1) [⟨c, t, A5, cap5, d⟩] rfl (rd_pt1 _ (Bx.new w5 109 (ptC ⟨c, t, A5, cap5, d⟩))) (by simp; omega) (by simp; have := HSR.out; have := HB5.out.size; omega) ?_; intro v6 w6 hown6 hfr6 hbk6 hb6; obtain ⟨A6, cap6, e6⟩ := hown6.slice_; subst e6; have HO6 := Lib.hid hown6; have HB6 := Lib.hid hb6; have HFR6 := Lib.hid hfr6; have hbx6 := (HBX.out.below' (HB.out.trans ((HB5.out.mono HSR.out).trans (((Below.refl w5.heap.size w5).alloc (Nat.le_refl _) _ |>.mono (Nat.le_trans HSR.out HB5.out.size)).trans HB6.out)))); have HBX6 := Lib.hid hbx6; obtain ⟨p0, p1, p2⟩ := hbx6.three; have z6 := hbx6.frozen; clear hown6 hfr6 hbk6 hb6 hbx6))
      clear p0 p1 p2 z6 q2
      refine bodyPost_ret (v := .tuple #[]) (by simp [results, Try.results89, go_sem]) rfl ?_
      have hal5 : Below w5.heap.size w5 (w5.alloc (.cells (ptC ⟨c, t, A5, cap5, d⟩).toArray 109)) := below_one w5 _
      have hs5 : w.heap.size ≤ w5.heap.size := Nat.le_trans HSR.out HB5.out.size
      have HBA : Hid (Below w.heap.size w w6) := HB.out.trans ((HB5.out.mono HSR.out).trans ((hal5.mono hs5).trans HB6.out))
      have hsz : w5.heap.size ≤ w6.heap.size := Nat.le_trans hal5.size HB6.out.size
      have h6 := HH.out.below' HBA.out
      have e : (l8 ++ [(⟨c, t, A5, cap5, d⟩ : Pt)]).length = l8.length + 1 := by simp
      refine ⟨fun j => H j ∨ w.heap.size ≤ j ∧ j < w6.heap.size, rfl, ⟨lv, .slice A6 (l8 ++ [(⟨c, t, A5, cap5, d⟩ : Pt)]).length cap6, l8 ++ [⟨c, t, A5, cap5, d⟩], ?_⟩, (Fr.of_below HBA.out).thenSet ⟨q, 2, none⟩ _ (.inl HH.out.hq), fun j hj => hj.elim .inl (fun h => .inr h.1)⟩
      have hl8 : ∀ x ∈ l8, x ∈ ps := fun x hx => by rw [← HQL.out] at hx; exact (List.mem_filter.1 hx).1
      refine RsV.next (w := w6) ?_ HBX6.out (Fr.setCell w6 _ _ _ rfl) h6.own (HO6.out.mono (Nat.zero_le _)) (fun x hx => ?_) (fun c' t' => ?_) (.inl HH.out.hq) (fun g hg => .inl (HH.out.hl g hg)) (fun g hg => .inr (HO6.out.blk_lt hg)) (fun x hx g hg => ?_) (by rw [e]; omega) (fun j hj => hj.elim (fun h => Nat.lt_of_lt_of_le (HH.out.lt j h) HBA.out.size) (fun h => h.2))
      · rw [e]
        exact HBX6.out.set1 2 (.slice A6 (l8.length + 1) cap6)
      · rcases List.mem_append.1 hx with hx | hx
        · exact h6.row x (hl8 x hx)
        · rw [List.mem_singleton.1 hx]
          refine ⟨((HO5.out.alloc _).fr HFR6.out (fun g hg hS => ?_)).mono (Nat.zero_le _), HOKD.out⟩
          have h1 := (HO.out.blk_lt hS).2
          have h2 := (HO5.out.blk_lt hg).1
          omega
      · rw [← HQL.out]
        exact getP_set (x := ⟨c, t, A5, cap5, d⟩) c' t' r.f HH.out.get
      · rcases List.mem_append.1 hx with hx | hx
        · exact .inl (HH.out.hr x (hl8 x hx) g hg)
        · rw [List.mem_singleton.1 hx] at hg
          have h1 := HO5.out.blk_lt hg
          exact .inr ⟨Nat.le_trans HSR.out h1.1, Nat.lt_of_lt_of_le h1.2 hsz⟩

end Go.Proofs.Ytncgpojjibojlaa

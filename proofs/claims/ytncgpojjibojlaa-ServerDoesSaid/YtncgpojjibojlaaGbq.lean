/- The sum of bytes, as a plain function: half a byte at a time and bit by bit are the same; one byte changed changes it. No program in sight. -/
import Derived.Test.YtncgpojjibojlaaGaq
import Derived.Test.YtncgpojjibojlaaGiq
import Derived.Test.YtncgpojjibojlaaReLq
import Derived.Maps.OwnSet
import Derived.DeepKeys4
namespace Go.Proofs.Ytncgpojjibojlaa

def polyC : Nat := 3988292384
def stp (x : Nat) : Nat := if x % 2 = 1 then (x / 2) ^^^ polyC else x / 2
def stpN : Nat → Nat → Nat
  | 0, x => x
  | n + 1, x => stpN n (stp x)
theorem stp_xor (a b : Nat) : stp (a ^^^ b) = stp a ^^^ stp b := by
  have hm := Nat.xor_mod_two_eq_one (a := a) (b := b)
  unfold stp
  rw [Nat.xor_div_two]
  rcases Nat.mod_two_eq_zero_or_one a with ha | ha <;> rcases Nat.mod_two_eq_zero_or_one b with hb | hb
  · rw [if_neg (fun h => by have := hm.1 h; omega), if_neg (by omega), if_neg (by omega)]
  · rw [if_pos (hm.2 (by omega)), if_neg (by omega), if_pos (by omega), Nat.xor_assoc]
  · rw [if_pos (hm.2 (by omega)), if_pos (by omega), if_neg (by omega), Nat.xor_assoc, Nat.xor_assoc, Nat.xor_comm polyC]
  · rw [if_neg (fun h => by have := hm.1 h; omega), if_pos (by omega), if_pos (by omega)]
    rw [Nat.xor_assoc, Nat.xor_comm (b / 2), ← Nat.xor_assoc polyC, Nat.xor_self, Nat.zero_xor]
theorem stpN_xor (n : Nat) : ∀ a b, stpN n (a ^^^ b) = stpN n a ^^^ stpN n b := by
  induction n with
  | zero => intro a b; rfl
  | succ n ih =>
    intro a b
    show stpN n (stp (a ^^^ b)) = _
    rw [stp_xor, ih]
    rfl
theorem stpN_add (m n x : Nat) : stpN (m + n) x = stpN n (stpN m x) := by
  induction m generalizing x with
  | zero => simp [stpN]
  | succ m ih =>
    rw [Nat.succ_add]
    show stpN (m + n) (stp x) = _
    rw [ih]
    rfl
theorem stp_even (y : Nat) : stp (2 * y) = y := by
  unfold stp
  rw [if_neg (by omega)]
  omega
theorem stpN_even (n y : Nat) : stpN n (2 ^ n * y) = y := by
  induction n with
  | zero => simp [stpN]
  | succ n ih =>
    show stpN n (stp (2 ^ (n + 1) * y)) = y
    rw [Nat.pow_succ, Nat.mul_comm (2 ^ n) 2, Nat.mul_assoc, stp_even]
    exact ih
/-- Half a byte at a time. -/
theorem stp_half (x : Nat) : stpN 4 x = stpN 4 (x % 16) ^^^ (x / 16) := by
  have h : x = (2 ^ 4 * (x / 16)) ^^^ (x % 16) := by
    have h1 : 2 ^ 4 * (x / 16) + x % 16 = x := by have := Nat.div_add_mod x 16; omega
    have h2 : (2 ^ 4 * (x / 16)) ^^^ (x % 16) = 2 ^ 4 * (x / 16) + x % 16 := by
      rw [Nat.two_pow_add_eq_or_of_lt (show x % 16 < 2 ^ 4 by omega)]
      apply Nat.eq_of_testBit_eq
      intro i
      rw [Nat.testBit_xor, Nat.testBit_or]
      by_cases hi : i < 4
      · rw [Nat.testBit_two_pow_mul]
        simp [show ¬ i ≥ 4 by omega]
      · have : (x % 16).testBit i = false := Nat.testBit_lt_two_pow (Nat.lt_of_lt_of_le (show x % 16 < 2 ^ 4 by omega) (Nat.pow_le_pow_right (by omega) (by omega)))
        rw [this]
        simp
    rw [h2, h1]
  conv => lhs; rw [h]
  rw [stpN_xor, stpN_even, Nat.xor_comm]
def wordC : Nat := 4294967296
theorem stp_lt {x : Nat} (h : x < wordC) : stp x < wordC := by
  unfold stp wordC at *
  split
  · exact Nat.xor_lt_two_pow (n := 32) (by omega) (by unfold polyC; omega)
  · omega
theorem stpN_lt (n : Nat) : ∀ {x : Nat}, x < wordC → stpN n x < wordC := by
  induction n with
  | zero => exact fun h => h
  | succ n ih => exact fun h => ih (stp_lt h)
theorem stp_inj {a b : Nat} (ha : a < wordC) (hb : b < wordC) (h : stp a = stp b) : a = b := by
  have top : ∀ {u v : Nat}, u < 2147483648 → v < 2147483648 → u ^^^ polyC ≠ v := fun {u v} hu hv e => by
    have h1 : (u ^^^ polyC).testBit 31 = v.testBit 31 := by rw [e]
    rw [Nat.testBit_xor, Nat.testBit_lt_two_pow (show u < 2 ^ 31 by omega), Nat.testBit_lt_two_pow (show v < 2 ^ 31 by omega)] at h1
    exact absurd h1 (by decide)
  unfold wordC at ha hb
  unfold stp at h
  by_cases h1 : a % 2 = 1 <;> by_cases h2 : b % 2 = 1
  · rw [if_pos h1, if_pos h2] at h
    have : a / 2 = b / 2 := by
      have := congrArg (· ^^^ polyC) h
      simpa [Nat.xor_assoc] using this
    omega
  · rw [if_pos h1, if_neg h2] at h
    exact absurd h (top (by omega) (by omega))
  · rw [if_neg h1, if_pos h2] at h
    exact absurd h.symm (top (by omega) (by omega))
  · rw [if_neg h1, if_neg h2] at h
    omega
theorem stpN_inj (n : Nat) : ∀ {a b : Nat}, a < wordC → b < wordC → stpN n a = stpN n b → a = b := by
  induction n with
  | zero => exact fun _ _ h => h
  | succ n ih => exact fun ha hb h => stp_inj ha hb (ih (stp_lt ha) (stp_lt hb) h)
/-- What a byte does to a sum. -/
def bytC (x b : Nat) : Nat := stpN 8 (x ^^^ b)
def moreC (x : Nat) (l : List Nat) : Nat := l.foldl bytC x
def sumC (l : List Nat) : Nat := moreC 4294967295 l ^^^ 4294967295
theorem bytC_half (x b : Nat) : bytC x b = (let y := x ^^^ b; let z := stpN 4 (y % 16) ^^^ (y / 16); stpN 4 (z % 16) ^^^ (z / 16)) := by
  unfold bytC
  rw [show (8 : Nat) = 4 + 4 by rfl, stpN_add, stp_half (x ^^^ b), stp_half]
theorem bytC_lt {x b : Nat} (hx : x < wordC) (hb : b < 256) : bytC x b < wordC := stpN_lt 8 (Nat.xor_lt_two_pow (n := 32) hx (by omega))
theorem moreC_lt : ∀ (l : List Nat) {x : Nat}, x < wordC → (∀ b ∈ l, b < 256) → moreC x l < wordC
  | [], _, hx, _ => hx
  | b :: l, _, hx, hl => moreC_lt l (bytC_lt hx (hl b (by simp))) (fun c hc => hl c (by simp [hc]))
theorem moreC_inj : ∀ (l : List Nat) {x y : Nat}, x < wordC → y < wordC → (∀ b ∈ l, b < 256) → moreC x l = moreC y l → x = y
  | [], _, _, _, _, _, h => h
  | b :: l, x, y, hx, hy, hl, h => by
    have hb := hl b (by simp)
    have h1 := moreC_inj l (bytC_lt hx hb) (bytC_lt hy hb) (fun c hc => hl c (by simp [hc])) h
    have h2 := stpN_inj 8 (Nat.xor_lt_two_pow (n := 32) hx (by omega)) (Nat.xor_lt_two_pow (n := 32) hy (by omega)) h1
    have := congrArg (· ^^^ b) h2
    simpa [Nat.xor_assoc] using this
/-- One byte changed changes the sum. -/
theorem sumC_turn {p q : List Nat} {b c : Nat} (hp : ∀ z ∈ p, z < 256) (hq : ∀ z ∈ q, z < 256) (hb : b < 256) (hc : c < 256) (hne : b ≠ c) : sumC (p ++ b :: q) ≠ sumC (p ++ c :: q) := by
  intro h
  have h1 : moreC 4294967295 (p ++ b :: q) = moreC 4294967295 (p ++ c :: q) := by
    have := congrArg (· ^^^ 4294967295) h
    simpa [sumC, Nat.xor_assoc] using this
  unfold moreC at h1
  rw [List.foldl_append, List.foldl_append] at h1
  have hx := moreC_lt p (x := 4294967295) (by unfold wordC; omega) hp
  have h2 := moreC_inj q (bytC_lt hx hb) (bytC_lt hx hc) hq h1
  have h3 := stpN_inj 8 (Nat.xor_lt_two_pow (n := 32) hx (by omega)) (Nat.xor_lt_two_pow (n := 32) hx (by omega)) h2
  have h4 := congrArg (moreC 4294967295 p ^^^ ·) h3
  simp only [← Nat.xor_assoc, Nat.xor_self, Nat.zero_xor] at h4
  exact hne h4

end Go.Proofs.Ytncgpojjibojlaa

/- How bytes lie in memory. -/
namespace Go.Proofs.Ytncgpojjibojlaa
open Go Go.RowKit

def byC (b : Nat) : List Value := [.int .u8 (b : Int)]
theorem byC_len (b : Nat) : (byC b).length = 1 := rfl
theorem byC_one (l : List Nat) : ∀ u ∈ l.flatMap byC, u.oneCell' = true := by
  intro u hu
  obtain ⟨x, _, hx⟩ := List.mem_flatMap.1 hu
  simp [byC] at hx
  subst hx
  rfl
theorem rd_byte {w : World} {b off cap n : Nat} {l : List Nat} (h : Rd w 1 (.slice (some ⟨b, off, none⟩) n cap) n (l.flatMap byC)) (i : Nat) (hi : i < l.length) : w.cell? ⟨b, off + i, none⟩ = some (.int .u8 ((at_ l i : Nat) : Int)) := by
  have hn : n = l.length := by have := h.1; rw [flat_len byC 1 byC_len] at this; omega
  obtain ⟨b', off', cap', hv, _, _, _, hc⟩ := h.form (by omega)
  injection hv with h1 h2 h3
  injection h1 with h1
  injection h1 with h4 h5
  subst h4 h5
  have hg := at_get hi
  have f0 := flat_get byC 1 byC_len l i 0 (by omega)
  rw [hg] at f0
  have := hc _ _ f0
  simpa using this
def okB (l : List Nat) : Prop := ∀ b ∈ l, b < 256

end Go.Proofs.Ytncgpojjibojlaa

/- The server's map, from a place to bytes, as a function: what is at a place; the laws of a look-up, a store, a delete, a clear. -/
namespace Go.Proofs.Ytncgpojjibojlaa
open Go Go.RowKit Go.Maps Go.WideMaps

set_option maxRecDepth 1000000 in
theorem laidOutT : laidOutB Try.prog = true := by kernel_rfl
theorem rowPl : (91 : TypeId) < Try.prog.types.size := of_decide_eq_true (by kernel_rfl)
theorem cellsPl : Try.prog.cellsOf 91 = 2 := by kernel_rfl
theorem cellsIn : Try.prog.cellsOf 3 = 1 := by kernel_rfl
theorem cellsBo : Try.prog.cellsOf 4 = 1 := by kernel_rfl
set_option maxRecDepth 1000000 in
theorem keyPlT : Try.prog.keyType 91 = true := by kernel_rfl
theorem widePl : (match Try.prog.underlying 91 with | some (.array _ _) | some (.struct _) => true | _ => false) = true := by kernel_rfl
set_option maxRecDepth 1000000 in
theorem lawPl : KeyLaw Try.prog 91 := deep_law_laid laidOutT (m := 3) (by omega) rowPl (by kernel_rfl) widePl
theorem keyedPl : Keyed Try.prog 91 := Keyed.of_law lawPl

def plV (c : Int) (t : Bool) : Value := .agg #[.int .i64 c, .bool t]
theorem lits_pl (c : Int) (t : Bool) (hc : (Lit.int .i64 c).wf = true) (d : Nat) : Try.prog.keyLits (d + 2) 91 [.int .i64 c, .bool t] = some [.int .i64 c, .bool t] := by
  simp [Program.keyLits, Try.underlying91, Try.underlying3, Try.underlying4, cellsPl, cellsIn, cellsBo, hc]
theorem key_pl (c : Int) (t : Bool) (hc : (Lit.int .i64 c).wf = true) : ∃ kl, keyOf Try.prog 91 (plV c t) = some kl := by
  obtain ⟨d, hd⟩ : ∃ d, Try.prog.types.size + 1 = d + 2 := by
    have h1 : (91 : Nat) < Try.prog.types.size := rowPl
    generalize Try.prog.types.size = N at h1
    exact ⟨N - 1, by omega⟩
  have hf : (plV c t).formed Try.prog 91 = true := by simp [plV, Value.formed, Try.underlying91, cellsPl]
  have hl : Try.prog.keyLits (Try.prog.types.size + 1) 91 (plV c t).cells.toList = some [.int .i64 c, .bool t] := by
    rw [hd]
    exact lits_pl c t hc d
  refine ⟨.string (keyBytes [.int .i64 c, .bool t]), ?_⟩
  unfold keyOf
  simp only [Try.underlying91, keyPlT, hf, Bool.and_true, if_true, hl, Option.map_some]
noncomputable def plL (c : Int) (t : Bool) : Lit := (keyOf Try.prog 91 (plV c t)).getD (.bool false)
theorem key_plL {c : Int} (t : Bool) (hc : (Lit.int .i64 c).wf = true) : keyOf Try.prog 91 (plV c t) = some (plL c t) := by
  obtain ⟨kl, h⟩ := key_pl c t hc
  rw [plL, h]
  rfl
theorem isKey_plL {c : Int} (t : Bool) (hc : (Lit.int .i64 c).wf = true) : ∃ l, l = plL c t ∧ WideAt.IsKeyLit l := by
  have h := key_plL t hc
  generalize plL c t = l at *
  exact ⟨l, rfl, keyedPl.key h⟩
theorem plL_inj {c d : Int} {s t : Bool} (hc : (Lit.int .i64 c).wf = true) (hd : (Lit.int .i64 d).wf = true) (h : plL c s = plL d t) : c = d ∧ s = t := by
  have h1 := key_plL s hc
  have h2 := key_plL t hd
  rw [← h] at h2
  have := keyedPl.inj h1 h2
  simpa [plV] using this

theorem wpList_lookup_own_raw {H : Type} {P : Program} (w : World) {ops : Array Oper} {rest : List Oper} {o : Oper} {a : Act} {Q : Exit → Act → World → Prop} (hg : o.guard = none) (m x : Operand) (t : TypeId) (hop : o.op = Op.lookup t m x false)
    (k e : TypeId) (K : Keyed P k) (ht : P.underlying t = some (.map k e)) (R : Value → Option (DataW H × List MemPlace)) {z : Value} (hz : (zeroValue e).run P w = .ok z w) (zd : DataW H) (zp : List MemPlace) (hzd : R z = some (zd, zp)) (b n : Nat) (D : DataW H)
    (hm : a.eval m = .map (some b)) (hown : w.ownsMap P k R b n D) (key : Value) (kl : Lit) (hx : a.eval x = key) (hkey : keyOf P k key = some kl)
    (hK : ∀ v ps, R v = some (D.atKey kl zd, ps) → wpList P ops Q rest (a.put o.dst v) w) :
    wpList P ops Q (o :: rest) a w := by
  refine wpList_plain hg fun K' hK' => ?_
  obtain ⟨v, ps, hrun, hv⟩ := hown.lookup K ht hz hzd hkey
  unfold Oper.wp
  simp [execOp, hop, hm, hx, hrun, Result.andThen]
  exact hK' _ _ (hK v ps hv)
/-- 'clear(m)'. -/
theorem wpList_clear_raw {H : Type} {P : Program} (w : World) {ops : Array Oper} {rest : List Oper} {o : Oper} {a : Act} {Q : Exit → Act → World → Prop} (hg : o.guard = none) (m : Operand) (t : TypeId) (hop : o.op = Op.call { callee := Callee.builtin Builtin.clear, args := #[m], argTypes := #[t] })
    (k e : TypeId) (ht : P.underlying t = some (.map k e)) (R : Value → Option (DataW H × List MemPlace)) (b n : Nat) (D : DataW H)
    (hm : a.eval m = .map (some b)) (hown : w.ownsMap P k R b n D)
    (hK : ∀ w', w'.ownsMap P k R b 0 (.map []) → w.mapTurned w' b → wpList P ops Q rest (a.put o.dst (.tuple #[])) w') :
    wpList P ops Q (o :: rest) a w := by
  obtain ⟨es, clock, hb, F, hs, rfl⟩ := hown
  refine wpList_plain hg fun K' hK' => ?_
  obtain ⟨clock', hrun⟩ : ∃ clock', (Builtin.clear_ #[t] o.type #[.map (some b)]).run P w = .ok (.tuple #[]) (ChangeMaps.setBlock w b (.map #[] clock')) := ⟨_, by
    simp [Builtin.clear_, run_underlying ht, MapKept.run_getObj_map hb, MapKept.run_setObj_map _ hb, Result.andThen, ChangeMaps.setBlock]
    rfl⟩
  unfold Oper.wp
  simp [execOp, hop, resolve, invoke, builtin, hm, hrun, Result.andThen]
  exact hK' _ _ (hK _ ⟨#[], clock', ChangeMaps.heap_setBlock_same hb _, ⟨by simp, MapKept.stamped_empty _, by simp⟩, Nat.le_refl _, rfl⟩ ⟨es, clock, #[], clock', hb, rfl⟩)

def rawR (v : Value) : Option (DataW Value × List MemPlace) := some (.held v, [])
abbrev nilS : Value := .slice none 0 0
/-- Block b is the server's map: at most n places have bytes; what is at each. -/
def MapV (w : World) (b n : Nat) (F : Int → Bool → Value) : Prop :=
  ∃ D, w.ownsMap Try.prog 91 rawR b n D ∧ ∀ c t, (Lit.int .i64 c).wf = true → D.atKey (plL c t) (.held nilS) = .held (F c t)
/-- One place turned. -/
def upF {α : Type} (F : Int → Bool → α) (c : Int) (t : Bool) (v : α) : Int → Bool → α := fun d s => if d = c ∧ s = t then v else F d s
theorem upF_same {α : Type} (F : Int → Bool → α) (c : Int) (t : Bool) (v : α) : upF F c t v c t = v := by simp [upF]
theorem upF_other {α : Type} (F : Int → Bool → α) {c d : Int} {s t : Bool} (v : α) (h : ¬ (d = c ∧ s = t)) : upF F c t v d s = F d s := by simp only [upF, if_neg h]

section
variable {w w' : World} {b n : Nat} {F : Int → Bool → Value}
theorem MapV.lt (h : MapV w b n F) : b < w.heap.size := by
  obtain ⟨D, h, _⟩ := h
  exact h.lt
theorem MapV.obj (h : MapV w b n F) : ∃ es clock, w.heap[b]? = some (.map es clock) := by
  obtain ⟨D, ⟨es, clock, hb, _⟩, _⟩ := h
  exact ⟨es, clock, hb⟩
theorem MapV.keep (h : MapV w b n F) (hb : w'.heap[b]? = w.heap[b]?) : MapV w' b n F := by
  obtain ⟨D, ⟨es, clock, h1, h2⟩, h3⟩ := h
  exact ⟨D, ⟨es, clock, hb.trans h1, h2⟩, h3⟩
theorem MapV.fr {S : Nat → Prop} (h : MapV w b n F) (hf : Fr S w w') (hn : ¬ S b) : MapV w' b n F := h.keep (hf.block b h.lt hn)
theorem MapV.below' (h : MapV w b n F) (hb : Below w.heap.size w w') : MapV w' b n F := h.keep (hb.block b h.lt)
theorem MapV.mono {m : Nat} (h : MapV w b n F) (hm : n ≤ m) : MapV w b m F := by
  obtain ⟨D, h1, h2⟩ := h
  exact ⟨D, h1.mono hm, h2⟩
theorem MapV.new (w : World) : MapV (w.alloc (.map #[] 0)) w.heap.size 0 (fun _ _ => nilS) :=
  ⟨.map [], World.ownsMap_made w Try.prog _ rawR, fun c t _ => rfl⟩
theorem Fr.of_turned (h : w.mapTurned w' b) : Fr (fun k => k = b) w w' := by
  obtain ⟨h1, h2, h3, h4, h5⟩ := h.grown
  refine ⟨h1, h2, h3, h4, fun k hk hn => h5 k hk (fun e => hn (by simpa using e))⟩
theorem zero_by (w : World) : (zeroValue 34).run Try.prog w = .ok nilS w := by kernel_rfl
end

section
variable {w : World} {ops : Array Oper} {rest : List Oper} {o : Oper} {a : Act} {Q : Exit → Act → World → Prop} {b n : Nat} {F : Int → Bool → Value}
/-- What is at a place. -/
theorem wpList_lookup_mapV (hg : o.guard = none) (m x : Operand) (hop : o.op = Op.lookup 80 m x false) (hm : a.eval m = .map (some b)) (h : MapV w b n F) (c : Int) (t : Bool) (hc : (Lit.int .i64 c).wf = true) (hx : a.eval x = plV c t)
    (hK : wpList Try.prog ops Q rest (a.put o.dst (F c t)) w) : wpList Try.prog ops Q (o :: rest) a w := by
  obtain ⟨D, hown, hat⟩ := h
  refine wpList_lookup_own_raw w hg m x 80 hop 91 34 keyedPl Try.underlying80 rawR (zero_by w) (.held nilS) [] rfl b n D hm hown (plV c t) (plL c t) hx (key_plL t hc) ?_
  intro v ps hv
  rw [hat c t hc] at hv
  simp only [rawR, Option.some.injEq, Prod.mk.injEq, DataW.held.injEq] at hv
  obtain ⟨rfl, _⟩ := hv
  exact hK
theorem MapV.put_ {w' : World} {D : DataW Value} {c : Int} {t : Bool} (hc : (Lit.int .i64 c).wf = true) (hat : ∀ c t, (Lit.int .i64 c).wf = true → D.atKey (plL c t) (.held nilS) = .held (F c t)) (hD : IsMap D) (v : Value)
    (h : w'.ownsMap Try.prog 91 rawR b n (D.put (plL c t) (.held v))) : MapV w' b n (upF F c t v) := by
  refine ⟨_, h, fun d s hd => ?_⟩
  by_cases e : d = c ∧ s = t
  · obtain ⟨rfl, rfl⟩ := e
    rw [upF_same]
    obtain ⟨l, hl, hk⟩ := isKey_plL s hd
    rw [← hl]
    exact Maps.atKey_put_same hD hk _ _
  · rw [upF_other _ _ e, Maps.atKey_put_other (fun h1 => e (plL_inj hd hc h1)), hat d s hd]
theorem MapV.del_ {w' : World} {D : DataW Value} {c : Int} {t : Bool} (hc : (Lit.int .i64 c).wf = true) (hat : ∀ c t, (Lit.int .i64 c).wf = true → D.atKey (plL c t) (.held nilS) = .held (F c t))
    (h : w'.ownsMap Try.prog 91 rawR b n (D.del (plL c t))) : MapV w' b n (upF F c t nilS) := by
  refine ⟨_, h, fun d s hd => ?_⟩
  by_cases e : d = c ∧ s = t
  · obtain ⟨rfl, rfl⟩ := e
    rw [upF_same, Maps.atKey_del_same]
  · rw [upF_other _ _ e, Maps.atKey_del_other (fun h1 => e (plL_inj hd hc h1)), hat d s hd]
/-- A store. -/
theorem wpList_store_mapV (hg : o.guard = none) (m x v : Operand) (hop : o.op = Op.mapUpdate 80 m x v) (hm : a.eval m = .map (some b)) (h : MapV w b n F) (hn : n < maxLen) (c : Int) (t : Bool) (hc : (Lit.int .i64 c).wf = true) (hx : a.eval x = plV c t) (val : Value) (hv : a.eval v = val)
    (hK : ∀ w', MapV w' b (n + 1) (upF F c t val) → Fr (fun k => k = b) w w' → wpList Try.prog ops Q rest (a.put o.dst undef) w') : wpList Try.prog ops Q (o :: rest) a w := by
  obtain ⟨D, hown, hat⟩ := h
  exact wpList_mapUpdate_in w hg m x v _ hop _ _ keyedPl Try.underlying80 rawR b n D hm hown hn (plV c t) val (plL c t) hx hv (key_plL t hc) (.held val) [] rfl
    (fun w' h1 h2 => hK w' (MapV.put_ hc hat hown.isMap val h1) (Fr.of_turned h2))
theorem MapV.run_lookup {w : World} (h : MapV w b n F) (c : Int) (t : Bool) (hc : (Lit.int .i64 c).wf = true) : (Instr.lookup 80 (.map (some b)) (plV c t) false).run Try.prog w = .ok (F c t) w := by
  obtain ⟨D, hown, hat⟩ := h
  obtain ⟨v, ps, hrun, hv⟩ := hown.lookup keyedPl Try.underlying80 (zero_by w) (zd := .held nilS) (zp := []) rfl (key_plL t hc)
  rw [hat c t hc] at hv
  simp only [rawR, Option.some.injEq, Prod.mk.injEq, DataW.held.injEq] at hv
  obtain ⟨rfl, _⟩ := hv
  exact hrun
theorem MapV.run_store {w : World} (h : MapV w b n F) (hn : n < maxLen) (c : Int) (t : Bool) (hc : (Lit.int .i64 c).wf = true) (val : Value) :
    ∃ w', (Instr.mapUpdate 80 (.map (some b)) (plV c t) val).run Try.prog w = .ok () w' ∧ MapV w' b (n + 1) (upF F c t val) ∧ Fr (fun k => k = b) w w' := by
  obtain ⟨D, hown, hat⟩ := h
  obtain ⟨w', h1, h2, h3⟩ := hown.store keyedPl Try.underlying80 hn (key_plL t hc) (val := val) (d := .held val) (ps := []) rfl
  exact ⟨w', h1, MapV.put_ hc hat hown.isMap val h2, Fr.of_turned h3⟩
/-- A delete. -/
theorem wpList_delete_mapV (hg : o.guard = none) (m x : Operand) (hop : o.op = Op.call { callee := Callee.builtin Builtin.delete, args := #[m, x], argTypes := #[80, 91] }) (hm : a.eval m = .map (some b)) (h : MapV w b n F) (c : Int) (t : Bool) (hc : (Lit.int .i64 c).wf = true) (hx : a.eval x = plV c t)
    (hK : ∀ w', MapV w' b n (upF F c t nilS) → Fr (fun k => k = b) w w' → wpList Try.prog ops Q rest (a.put o.dst (.tuple #[])) w') : wpList Try.prog ops Q (o :: rest) a w := by
  obtain ⟨D, hown, hat⟩ := h
  exact wpList_delete_own w hg m x _ _ hop _ keyedPl Try.underlying80 rawR b n D hm hown (plV c t) (plL c t) hx (key_plL t hc)
    (fun w' h1 h2 => hK w' (MapV.del_ hc hat h1) (Fr.of_turned h2))
/-- All of it. -/
theorem wpList_clear_mapV (hg : o.guard = none) (m : Operand) (hop : o.op = Op.call { callee := Callee.builtin Builtin.clear, args := #[m], argTypes := #[80] }) (hm : a.eval m = .map (some b)) (h : MapV w b n F)
    (hK : ∀ w', MapV w' b 0 (fun _ _ => nilS) → Fr (fun k => k = b) w w' → wpList Try.prog ops Q rest (a.put o.dst (.tuple #[])) w') : wpList Try.prog ops Q (o :: rest) a w := by
  obtain ⟨D, hown, hat⟩ := h
  exact wpList_clear_raw w hg m 80 hop 91 34 Try.underlying80 rawR b n D hm hown
    (fun w' h1 h2 => hK w' ⟨_, h1, fun c t _ => rfl⟩ (Fr.of_turned h2))
end

end Go.Proofs.Ytncgpojjibojlaa

/- A server as plain data: its room, its replicas, the bytes of each place. No program in sight. -/
namespace Go.Proofs.Ytncgpojjibojlaa
open Go

structure Sv where
  room : Int
  l : List Re
  f : Int → Bool → List Nat

def bgnS (s : Sv) (c v u : Int) (d : List Nat) : Int × Sv :=
  if 64 < d.length then (7, s) else if ((sumC d : Nat) : Int) ≠ u then (4, s)
  else if (bgnR s.l (c, v, u, false, false) s.room).1 = 0 then (0, ⟨s.room, (bgnR s.l (c, v, u, false, false) s.room).2, upF s.f c true d⟩) else ((bgnR s.l (c, v, u, false, false) s.room).1, s)
def cmtS (s : Sv) (c v : Int) : Int × Sv :=
  if (cmtR s.l c v).1 = 0 then (0, ⟨s.room, (cmtR s.l c v).2, upF (upF s.f c false (s.f c true)) c true []⟩) else ((cmtR s.l c v).1, s)
def abtS (s : Sv) (c : Int) : Sv := ⟨s.room, abtR s.l c, upF s.f c true []⟩
def rmvS (s : Sv) (c : Int) : Int × Sv :=
  if (rmvR s.l c).1 = 0 then (0, ⟨s.room, (rmvR s.l c).2, upF s.f c false []⟩) else ((rmvR s.l c).1, s)
/-- One bit turned. -/
def turnB (l : List Nat) (k : Nat) : List Nat := l.set (k / 8) (at_ l (k / 8) ^^^ 2 ^ (k % 8))
def splS (s : Sv) (c : Int) (bit : Int) : Int × Sv :=
  if s.f c false = [] then (5, s) else (0, ⟨s.room, s.l, upF s.f c false (turnB (s.f c false) (bit.toNat % (8 * (s.f c false).length)))⟩)
def spoiltS (s : Sv) (x : Re) : Bool := !decide (((sumC (s.f x.1 false) : Nat) : Int) = x.2.2.1)
def readS (s : Sv) (c : Int) : List Nat × Int × Int := match (rstR s.l).find? (fun x => x.1 == c) with
  | none => ([], 0, 5)
  | some x => if spoiltS s x then ([], 0, 4) else (s.f c false, x.2.1, 0)
def badS (s : Sv) : List Int := ((rstR s.l).filter (spoiltS s)).map (fun x => x.1)
def scrS (s : Sv) : Sv := (badS s).foldl (fun s c => (rmvS s c).2) s
def rebS (s : Sv) : Sv := s.l.foldl (fun s x => if x.2.2.2.1 then abtS s x.1 else s) s
def wipeS (s : Sv) : Sv := ⟨s.room, [], fun _ _ => []⟩
def newS (room : Int) : Sv := ⟨min (max room 0) 16, [], fun _ _ => []⟩

/-- What always holds of a server. -/
structure OkS (s : Sv) : Prop where
  may : mayR s.l = true
  len : (s.l.length : Int) ≤ s.room
  room0 : 0 ≤ s.room
  room16 : s.room ≤ 16
  bytes : ∀ c t, (s.f c t).length ≤ 64 ∧ okB (s.f c t)
  there : ∀ c t, s.f c t ≠ [] → (findR s.l c t).isSome = true

theorem OkS.l16 {s : Sv} (h : OkS s) : s.l.length ≤ 16 := by have := h.len; have := h.room16; omega
theorem OkS.fair {s : Sv} (h : OkS s) : fairR s.l = s.l := fairR_of h.may
theorem OkS.ris {s : Sv} (h : OkS s) : Ris kR s.l := mayR_ris h.may
theorem wf_i64 {c : Int} (h1 : -9223372036854775808 ≤ c) (h2 : c ≤ 9223372036854775807) : (Lit.int .i64 c).wf = true := by
  simp [Lit.wf, IntKind.min, IntKind.max, IntKind.signed, IntKind.bits]
  omega
theorem OkS.named {s : Sv} (h : OkS s) {x : Re} (hx : x ∈ s.l) : 1 ≤ x.1 ∧ x.1 ≤ 1048576 := by
  have := okR_named (((mayR_iff s.l).1 h.may).1 x hx)
  simp [namedB] at this
  omega
theorem okB_nil : okB [] := fun _ h => by cases h
theorem okB_turn {l : List Nat} (h : okB l) {k : Nat} (hk : k < 8 * l.length) : okB (turnB l k) := by
  intro b hb
  unfold turnB at hb
  rcases List.mem_or_eq_of_mem_set hb with h1 | rfl
  · exact h b h1
  · have h1 := h _ (at_mem (l := l) (i := k / 8) (by omega))
    have h2 : 2 ^ (k % 8) < 2 ^ 8 := Nat.pow_lt_pow_right (by omega) (by omega)
    exact Nat.xor_lt_two_pow (n := 8) h1 h2
theorem turnB_len (l : List Nat) (k : Nat) : (turnB l k).length = l.length := by simp [turnB]

theorem OkS.new (room : Int) : OkS (newS room) :=
  ⟨rfl, by simp only [newS, List.length_nil]; omega, by simp only [newS]; omega, by simp only [newS]; omega, fun _ _ => ⟨by simp [newS], okB_nil⟩, fun c t h => absurd rfl h⟩
theorem key_iffS (c : Int) (t : Bool) (z : Re) : (kR z != 2 * c + flI t) = !(z.1 == c && z.2.2.2.1 == t) := by
  rw [Bool.eq_iff_iff]
  have := kR_eq (x := z) (c := c) (t := t)
  simp only [bne_iff_ne, ne_eq, Bool.not_eq_true', Bool.and_eq_false_iff, beq_eq_false_iff_ne]
  rw [this]
  constructor
  · intro h
    by_cases h1 : z.1 = c
    · exact .inr fun h2 => h ⟨h1, h2⟩
    · exact .inl h1
  · rintro (h | h) ⟨h1, h2⟩
    · exact h h1
    · exact h h2
theorem abtR_dropS (l : List Re) (c : Int) : abtR l c = dropR (fairR l) (2 * c + flI true) := by
  unfold abtR dropR
  refine List.filter_congr fun z _ => ?_
  rw [key_iffS]
  cases z.2.2.2.1 <;> rfl
theorem rmvR_dropS (l : List Re) (c : Int) : (fairR l).filter (fun z => !(z.1 == c && !z.2.2.2.1)) = dropR (fairR l) (2 * c + flI false) := by
  unfold dropR
  refine List.filter_congr fun z _ => ?_
  rw [key_iffS]
  cases z.2.2.2.1 <;> rfl
theorem dropR_findS {l : List Re} {c : Int} {t : Bool} (h : findR l c t = none) : dropR l (2 * c + flI t) = l :=
  dropR_none fun y hy e => findR_none.1 h y hy (kR_eq.1 e)
theorem put_len_at {l : List Re} (h : Ris kR l) {x y : Re} (hy : findR l x.1 x.2.2.2.1 = some y) : (putR l x).length = l.length := by
  obtain ⟨h1, h2, h3⟩ := (findR_some h).1 hy
  have hk : kR y = kR x := by unfold kR; rw [h2, h3]
  have := dropR_lt h h1
  rw [putR_len, ← hk]
  exact this
theorem drop_len_at {l : List Re} (h : Ris kR l) {c : Int} {t : Bool} {y : Re} (hy : findR l c t = some y) : (dropR l (2 * c + flI t)).length + 1 = l.length := by
  obtain ⟨h1, h2, h3⟩ := (findR_some h).1 hy
  have hk : kR y = 2 * c + flI t := kR_eq.2 ⟨h2, h3⟩
  rw [← hk]
  exact dropR_lt h h1
theorem upF_bytes {f : Int → Bool → List Nat} (h : ∀ c t, (f c t).length ≤ 64 ∧ okB (f c t)) (c : Int) (t : Bool) {d : List Nat} (hd : d.length ≤ 64 ∧ okB d) : ∀ c' t', (upF f c t d c' t').length ≤ 64 ∧ okB (upF f c t d c' t') := by
  intro c' t'
  unfold upF
  split
  · exact hd
  · exact h c' t'

theorem OkS.bgn {s : Sv} (h : OkS s) {c v u : Int} {d : List Nat} (hd : okB d) : OkS (bgnS s c v u d).2 := by
  unfold bgnS
  split
  · exact h
  split
  · exact h
  split
  · rename_i h1 h2 h3
    obtain ⟨⟨e, m⟩, hm⟩ : ∃ p, bgnR s.l (c, v, u, false, false) s.room = p := ⟨_, rfl⟩
    rw [hm] at h3 ⊢
    simp only at h3 ⊢
    subst h3
    have hmay := bgnR_may hm
    obtain ⟨rfl, hn, ha, hb, hc⟩ := bgnR_ok hm
    rw [h.fair] at *
    simp only at *
    refine ⟨hmay, ?_, h.room0, h.room16, upF_bytes h.bytes c true ⟨by omega, hd⟩, fun c' t' hne => ?_⟩
    · cases hf : findR s.l c true with
      | none =>
        have h5 := hc hf
        have h6 := putR_len_le s.l (c, v, u, true, false)
        show ((putR s.l (c, v, u, true, false)).length : Int) ≤ s.room
        omega
      | some y =>
        have h6 := put_len_at h.ris (x := (c, v, u, true, false)) hf
        show ((putR s.l (c, v, u, true, false)).length : Int) ≤ s.room
        rw [h6]
        exact h.len
    · by_cases e : c' = c ∧ t' = true
      · obtain ⟨rfl, rfl⟩ := e
        have := findR_put h.ris (c', v, u, true, false)
        show (findR (putR s.l (c', v, u, true, false)) c' true).isSome = true
        rw [this]
        rfl
      · simp only [upF_other _ _ e] at hne
        show (findR (putR s.l (c, v, u, true, false)) c' t').isSome = true
        rw [findR_put_other h.ris _ (fun e2 => e ⟨e2.1.symm, e2.2.symm⟩)]
        exact h.there c' t' hne
  · exact h
theorem OkS.abt {s : Sv} (h : OkS s) (c : Int) : OkS (abtS s c) := by
  unfold abtS
  rw [abtR_dropS, h.fair]
  refine ⟨mayR_sub h.may (dropR_sub _ _), ?_, h.room0, h.room16, upF_bytes h.bytes c true ⟨by simp, okB_nil⟩, fun c' t' hne => ?_⟩
  · have := dropR_len_le s.l (2 * c + flI true)
    have := h.len
    show ((dropR s.l (2 * c + flI true)).length : Int) ≤ s.room
    omega
  · by_cases e : c' = c ∧ t' = true
    · obtain ⟨rfl, rfl⟩ := e
      exact absurd (upF_same _ _ _ _) hne
    · simp only [upF_other _ _ e] at hne
      show (findR (dropR s.l (2 * c + flI true)) c' t').isSome = true
      rw [findR_drop_other h.ris (fun e2 => e ⟨e2.1.symm, e2.2.symm⟩)]
      exact h.there c' t' hne
theorem rmvR_eq {s : Sv} (h : OkS s) (c : Int) : rmvR s.l c = if (findR s.l c false).isSome then (0, dropR s.l (2 * c + flI false)) else (5, []) := by
  unfold rmvR
  rw [rmvR_dropS, h.fair]
theorem rmvS_eq {s : Sv} (h : OkS s) (c : Int) : rmvS s c = if (findR s.l c false).isSome then (0, ⟨s.room, dropR s.l (2 * c + flI false), upF s.f c false []⟩) else (5, s) := by
  unfold rmvS
  rw [rmvR_eq h]
  cases e : (findR s.l c false).isSome with
  | true => simp
  | false => simp
theorem OkS.rmv {s : Sv} (h : OkS s) (c : Int) : OkS (rmvS s c).2 := by
  rw [rmvS_eq h]
  split
  · refine ⟨mayR_sub h.may (dropR_sub _ _), ?_, h.room0, h.room16, upF_bytes h.bytes c false ⟨by simp, okB_nil⟩, fun c' t' hne => ?_⟩
    · have := dropR_len_le s.l (2 * c + flI false)
      have := h.len
      show ((dropR s.l (2 * c + flI false)).length : Int) ≤ s.room
      omega
    · by_cases e : c' = c ∧ t' = false
      · obtain ⟨rfl, rfl⟩ := e
        exact absurd (upF_same _ _ _ _) hne
      · simp only [upF_other _ _ e] at hne
        show (findR (dropR s.l (2 * c + flI false)) c' t').isSome = true
        rw [findR_drop_other h.ris (fun e2 => e ⟨e2.1.symm, e2.2.symm⟩)]
        exact h.there c' t' hne
  · exact h
theorem OkS.cmt {s : Sv} (h : OkS s) (c v : Int) : OkS (cmtS s c v).2 := by
  unfold cmtS
  split
  · rename_i h3
    obtain ⟨⟨e, m⟩, hm⟩ : ∃ p, cmtR s.l c v = p := ⟨_, rfl⟩
    rw [hm] at h3 ⊢
    simp only at h3 ⊢
    subst h3
    have hmay := cmtR_may hm
    obtain ⟨t, hf, hv, rfl⟩ := cmtR_ok hm
    rw [h.fair] at *
    obtain ⟨hm1, hc, ht⟩ := (findR_some h.ris).1 hf
    have hdl := drop_len_at h.ris hf
    have hkd : (2 * c + 1 : Int) = 2 * c + flI true := rfl
    have hdr : Ris kR (dropR s.l (2 * c + 1)) := dropR_ris h.ris _
    refine ⟨hmay, ?_, h.room0, h.room16, upF_bytes (upF_bytes h.bytes c false (h.bytes c true)) c true ⟨by simp, okB_nil⟩, fun c' t' hne => ?_⟩
    · have h1 := putR_len_le (dropR s.l (2 * c + 1)) (t.1, t.2.1, t.2.2.1, false, t.2.2.2.2)
      have := h.len
      show ((putR (dropR s.l (2 * c + 1)) (t.1, t.2.1, t.2.2.1, false, t.2.2.2.2)).length : Int) ≤ s.room
      rw [hkd] at h1 ⊢
      omega
    · show (findR (putR (dropR s.l (2 * c + 1)) (t.1, t.2.1, t.2.2.1, false, t.2.2.2.2)) c' t').isSome = true
      by_cases e : c' = c ∧ t' = true
      · obtain ⟨rfl, rfl⟩ := e
        exact absurd (upF_same _ _ _ _) hne
      · simp only [upF_other _ _ e] at hne
        by_cases e2 : c' = c ∧ t' = false
        · obtain ⟨rfl, rfl⟩ := e2
          have := findR_put hdr (t.1, t.2.1, t.2.2.1, false, t.2.2.2.2)
          simp only [hc] at this ⊢
          rw [this]
          rfl
        · simp only [upF_other _ _ e2] at hne
          rw [findR_put_other hdr _ (fun e3 => e2 ⟨by rw [← e3.1]; exact hc, e3.2.symm⟩)]
          rw [hkd, findR_drop_other h.ris (fun e3 => e ⟨e3.1.symm, e3.2.symm⟩)]
          exact h.there c' t' hne
  · exact h
theorem OkS.spl {s : Sv} (h : OkS s) (c bit : Int) : OkS (splS s c bit).2 := by
  unfold splS
  split
  · exact h
  · rename_i hne0
    have hlen : 0 < (s.f c false).length := List.length_pos_iff.2 hne0
    refine ⟨h.may, h.len, h.room0, h.room16, upF_bytes h.bytes c false ⟨by rw [turnB_len]; exact (h.bytes c false).1, okB_turn (h.bytes c false).2 (Nat.mod_lt _ (by omega))⟩, fun c' t' hne => ?_⟩
    by_cases e : c' = c ∧ t' = false
    · obtain ⟨rfl, rfl⟩ := e
      exact h.there c' false hne0
    · simp only [upF_other _ _ e] at hne
      exact h.there c' t' hne
theorem OkS.wipe {s : Sv} (h : OkS s) : OkS (wipeS s) := ⟨rfl, by have := h.room0; simp only [wipeS, List.length_nil]; omega, h.room0, h.room16, fun _ _ => ⟨by simp [wipeS], okB_nil⟩, fun c t hn => absurd rfl hn⟩

/-! ### restart, scrub: what is left -/
def rebF (s : Sv) (x : Re) : Sv := if x.2.2.2.1 then abtS s x.1 else s
theorem OkS.rebOne {s : Sv} (h : OkS s) (x : Re) : OkS (rebF s x) := by
  unfold rebF
  split
  · exact h.abt _
  · exact h
theorem OkS.rebL {s : Sv} (h : OkS s) (xs : List Re) : OkS (xs.foldl rebF s) := by
  induction xs generalizing s with
  | nil => exact h
  | cons x xs ih => exact ih (h.rebOne x)
theorem OkS.reb {s : Sv} (h : OkS s) : OkS (rebS s) := h.rebL s.l
theorem rebL_eq {s : Sv} (h : OkS s) (xs : List Re) : xs.foldl rebF s = ⟨s.room, s.l.filter (fun z => !(z.2.2.2.1 && xs.any (fun x => x.2.2.2.1 && x.1 == z.1))), fun c t => if t && xs.any (fun x => x.2.2.2.1 && x.1 == c) then [] else s.f c t⟩ := by
  induction xs generalizing s with
  | nil =>
    obtain ⟨r, l, f⟩ := s
    show Sv.mk r l f = Sv.mk r (l.filter _) _
    congr 1
    · exact (List.filter_eq_self.2 (by simp)).symm
    · funext c t
      simp
  | cons x xs ih =>
    rw [List.foldl_cons, ih (h.rebOne x)]
    unfold rebF
    cases hx : x.2.2.2.1 with
    | false =>
      simp only [Bool.false_eq_true, if_false]
      congr 1
      · refine List.filter_congr fun z _ => ?_
        rw [List.any_cons, hx, Bool.false_and, Bool.false_or]
      · funext c t
        rw [List.any_cons, hx, Bool.false_and, Bool.false_or]
    | true =>
      simp only [if_true, abtS, abtR, h.fair, List.any_cons, hx, Bool.true_and]
      congr 1
      · rw [List.filter_filter]
        refine List.filter_congr fun z _ => ?_
        have : (z.1 == x.1) = (x.1 == z.1) := by rw [Bool.eq_iff_iff]; simp; exact eq_comm
        rw [this]
        cases (x.1 == z.1) <;> cases z.2.2.2.1 <;> cases (xs.any fun y => y.2.2.2.1 && y.1 == z.1) <;> rfl
      · funext c t
        unfold upF
        by_cases e : c = x.1
        · subst e
          cases t <;> simp
        · have e' : (x.1 == c) = false := by simpa using fun h => e h.symm
          rw [e', Bool.false_or, if_neg (show ¬ (c = x.1 ∧ t = true) from fun h => e h.1)]
theorem rebS_eq {s : Sv} (h : OkS s) : rebS s = ⟨s.room, rstR s.l, fun c t => if t then [] else s.f c t⟩ := by
  show s.l.foldl rebF s = _
  rw [rebL_eq h]
  congr 1
  · unfold rstR
    rw [h.fair]
    refine List.filter_congr fun z hz => ?_
    cases e : z.2.2.2.1 with
    | false => simp
    | true =>
      have : s.l.any (fun x => x.2.2.2.1 && x.1 == z.1) = true := List.any_eq_true.2 ⟨z, hz, by simp [e]⟩
      simp [this]
  · funext c t
    cases t with
    | false => simp
    | true =>
      simp only [Bool.true_and, if_true]
      by_cases e : s.f c true = []
      · rw [e]; simp
      · obtain ⟨y, hy⟩ := Option.isSome_iff_exists.1 (h.there c true e)
        obtain ⟨h1, h2, h3⟩ := (findR_some h.ris).1 hy
        rw [if_pos]
        exact List.any_eq_true.2 ⟨y, h1, by simp [h2, h3]⟩
theorem OkS.rmvL {s : Sv} (h : OkS s) (cs : List Int) : OkS (cs.foldl (fun s c => (rmvS s c).2) s) := by
  induction cs generalizing s with
  | nil => exact h
  | cons x xs ih => exact ih (h.rmv x)
theorem OkS.scr {s : Sv} (h : OkS s) : OkS (scrS s) := h.rmvL _
theorem rmvS_snd {s : Sv} (h : OkS s) (c : Int) : (rmvS s c).2 = ⟨s.room, s.l.filter (fun z => !(!z.2.2.2.1 && z.1 == c)), fun d t => if !t && d == c then [] else s.f d t⟩ := by
  rw [rmvS_eq h]
  by_cases e : (findR s.l c false).isSome = true
  · rw [if_pos e]
    show Sv.mk _ _ _ = Sv.mk _ _ _
    congr 1
    · unfold dropR
      refine List.filter_congr fun z _ => ?_
      rw [key_iffS]
      cases z.2.2.2.1 <;> cases (z.1 == c) <;> rfl
    · funext d t
      show upF s.f c false [] d t = _
      unfold upF
      cases t <;> by_cases e : d = c <;> simp [e]
  · rw [if_neg e]
    have hn : findR s.l c false = none := by simpa using e
    have hl : s.l.filter (fun z => !(!z.2.2.2.1 && z.1 == c)) = s.l := List.filter_eq_self.2 fun z hz => by
      have := findR_none.1 hn z hz
      cases e1 : z.2.2.2.1 with
      | true => simp
      | false =>
        have : z.1 ≠ c := fun e2 => this ⟨e2, e1⟩
        simpa using this
    rw [hl]
    have hf : (fun d t => if (!t && d == c) = true then [] else s.f d t) = s.f := by
      funext d t
      split
      · rename_i h1
        simp only [Bool.and_eq_true, Bool.not_eq_true', beq_iff_eq] at h1
        obtain ⟨rfl, rfl⟩ := h1
        by_cases e2 : s.f d false = []
        · exact e2.symm
        · exact absurd (h.there d false e2) e
      · rfl
    rw [hf]
theorem rmvL_eq {s : Sv} (h : OkS s) (cs : List Int) : cs.foldl (fun s c => (rmvS s c).2) s = ⟨s.room, s.l.filter (fun z => !(!z.2.2.2.1 && cs.contains z.1)), fun c t => if !t && cs.contains c then [] else s.f c t⟩ := by
  induction cs generalizing s with
  | nil =>
    obtain ⟨r, l, f⟩ := s
    show Sv.mk r l f = Sv.mk r (l.filter _) _
    congr 1
    · exact (List.filter_eq_self.2 (by simp)).symm
    · funext c t
      simp
  | cons x xs ih =>
    rw [List.foldl_cons, ih (h.rmv x), rmvS_snd h]
    simp only
    congr 1
    · rw [List.filter_filter]
      refine List.filter_congr fun z _ => ?_
      rw [List.contains_cons]
      cases (z.1 == x) <;> cases z.2.2.2.1 <;> cases xs.contains z.1 <;> rfl
    · funext c t
      rw [List.contains_cons]
      cases t <;> cases (c == x) <;> cases xs.contains c <;> rfl
/-- The held ones of a server. -/
theorem rst_mem {s : Sv} (h : OkS s) {x : Re} : x ∈ rstR s.l ↔ x ∈ s.l ∧ x.2.2.2.1 = false := by
  unfold rstR
  rw [h.fair, List.mem_filter]
  simp
theorem held_find {s : Sv} (h : OkS s) (c : Int) : (rstR s.l).find? (fun x => x.1 == c) = findR s.l c false := by
  cases hf : findR s.l c false with
  | none =>
    rw [List.find?_eq_none]
    intro x hx
    obtain ⟨h1, h2⟩ := (rst_mem h).1 hx
    simpa using fun e => findR_none.1 hf x h1 ⟨e, h2⟩
  | some y =>
    obtain ⟨h1, h2, h3⟩ := (findR_some h.ris).1 hf
    cases hg : (rstR s.l).find? (fun x => x.1 == c) with
    | none =>
      have := List.find?_eq_none.1 hg y ((rst_mem h).2 ⟨h1, h3⟩)
      simp [h2] at this
    | some z =>
      have h4 := List.mem_of_find?_eq_some hg
      have h5 : z.1 = c := by simpa using List.find?_some hg
      obtain ⟨h6, h7⟩ := (rst_mem h).1 h4
      have := (findR_some h.ris).2 ⟨h6, h5, h7⟩
      rw [hf] at this
      exact this.symm
theorem readS_eq {s : Sv} (h : OkS s) (c : Int) : readS s c = match findR s.l c false with
  | none => ([], 0, 5)
  | some x => if spoiltS s x then ([], 0, 4) else (s.f c false, x.2.1, 0) := by
  unfold readS
  rw [held_find h]
theorem mem_badS {s : Sv} (h : OkS s) {c : Int} : c ∈ badS s ↔ ∃ x ∈ s.l, x.2.2.2.1 = false ∧ x.1 = c ∧ spoiltS s x = true := by
  unfold badS
  rw [List.mem_map]
  constructor
  · rintro ⟨x, hx, rfl⟩
    obtain ⟨h1, h2⟩ := List.mem_filter.1 hx
    obtain ⟨h3, h4⟩ := (rst_mem h).1 h1
    exact ⟨x, h3, h4, rfl, h2⟩
  · rintro ⟨x, h1, h2, rfl, h3⟩
    exact ⟨x, List.mem_filter.2 ⟨(rst_mem h).2 ⟨h1, h2⟩, h3⟩, rfl⟩

end Go.Proofs.Ytncgpojjibojlaa

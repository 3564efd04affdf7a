/- server.Begin: its contract. -/
import Derived.Test.YtncgpojjibojlaaGfq
namespace Go.Proofs.Ytncgpojjibojlaa
open Go Go.RowKit Go.Sort

theorem bgnS_ok {s : Sv} {c v u : Int} {d : List Nat} {m : List Re} (h1 : ¬ 64 < d.length) (h2 : ((sumC d : Nat) : Int) = u) (h : bgnR s.l (c, v, u, false, false) s.room = (0, m)) : bgnS s c v u d = (0, ⟨s.room, m, upF s.f c true d⟩) := by
  unfold bgnS; rw [if_neg h1, if_neg (fun h => h h2), h]; simp
theorem bgnS_no {s : Sv} {c v u e : Int} {d : List Nat} {m : List Re} (h1 : ¬ 64 < d.length) (h2 : ((sumC d : Nat) : Int) = u) (h : bgnR s.l (c, v, u, false, false) s.room = (e, m)) (he : ¬ e = 0) : bgnS s c v u d = (e, s) := by
  unfold bgnS; rw [if_neg h1, if_neg (fun h => h h2), h, if_neg he]

/-- What a slice lies in is none of these. -/
def OffG (G : Nat → Prop) (v : Value) : Prop := ∀ b off n cap, v = .slice (some ⟨b, off, none⟩) n cap → 0 < n → ¬ G b
theorem Rd.off {w w' : World} {G : Nat → Prop} {size n : Nat} {v : Value} {xs : List Value} (h : Rd w size v n xs) (hf : Fr G w w') (ho : OffG G v) : Rd w' size v n xs :=
  h.keep hf.size fun b off c hv hn => by
    obtain ⟨b', off', cap', hv', _, _, hb, _⟩ := h.form hn
    rw [hv] at hv'
    injection hv' with h1 h2 h3
    injection h1 with h1
    injection h1 with h4 h5
    subst h4
    exact hf.block b hb (ho b off n c hv hn)

theorem Rd.offB {W : World} {G : Nat → Prop} {size n : Nat} {v : Value} {xs : List Value} (h : Rd W size v n xs) (hG : ∀ i, G i → W.heap.size ≤ i) : OffG G v := fun b off n' cap hv h0 hg => by
  obtain ⟨_, A, cap', hv', _, _, _⟩ := h
  have hn : n' = n := by
    rw [hv] at hv'
    injection hv'
  subst hn
  obtain ⟨b', off', cap'', hv2, _, _, hb, _⟩ := Rd.form ⟨‹_›, A, cap', hv', ‹_›, ‹_›, ‹_›⟩ h0
  rw [hv] at hv2
  injection hv2 with h1 h2 h3
  injection h1 with h1
  injection h1 with h4 h5
  subst h4
  have := hG b hg
  omega

set_option maxHeartbeats 2000000 in
theorem sbegin_any (p k : Nat) (c v u : Int) (dv : Value) (d : List Nat) (s : Sv) (G : Nat → Prop) (w : World) (hc : wfI c) (hl : s.l.length ≤ 800) (hk : k < 1000) (hok : okB d) (hD : Rd w 1 dv d.length (d.flatMap byC)) (hoff : OffG G dv) (h : SrvAt w G p k s) :
    Calls Try.prog 28 #[.pointer (some ⟨p, 0, none⟩), .int .i64 c, .int .i64 v, .int .u32 u, dv] w (SvE G p (k + 1) (bgnS s c v u d).2 (.int .i64 (bgnS s c v u d).1) w) := by
  obtain ⟨lv, mb, F, h⟩ := h
  obtain ⟨Ad, capd, hv, hcapd, hncd⟩ := hD.shape
  subst hv
  obtain ⟨n, hn⟩ : ∃ n, d.length = n := ⟨_, rfl⟩
  rw [hn] at hD hncd ⊢
  have HD := Lib.hid hD
  have HN := Lib.hid hn
  have HOK := Lib.hid hok
  have HC := Lib.hid hc
  have HH := Lib.hid h
  have HOF : Hid (OffG G (.slice Ad n capd)) := fun b off n' cap h h0 => by
    injection h with h1 h2 h3
    exact hoff b off d.length cap (by rw [h1, h3]) (by omega)
  clear h hc hD hn hok hoff
  by_cases hbig : 64 < n
  · have hbI : (n : Int) > 64 := by omega
    go_enter Try.func28, Try.ntmps28
    go_wp2_with fail
    go_ret
    have : bgnS s c v u d = (7, s) := by unfold bgnS; rw [if_pos (by rw [HN.out]; exact hbig)]
    rw [this]
    exact ⟨G, rfl, ⟨_, _, _, HH.out.mono (Nat.le_succ k)⟩, StepG.refl _ _⟩
  have hbI : ¬ ((n : Int) > 64) := by omega
  go_enter Try.func28, Try.ntmps28
  go_wp2_with fail
  refine (sum_any _ d w HOK.out (by rw [HN.out]; exact HD.out)).mono ?_
  rintro e w1 ⟨rfl, hb1⟩
  have HB1 := Lib.hid hb1
  have hh1 := HH.out.below' hb1
  have HH1 := Lib.hid hh1
  obtain ⟨q0, q1, q2⟩ := hh1.box.three
  clear hb1 hh1
  by_cases hsum : ((sumC d : Nat) : Int) = u
  · have hs' : (((sumC d : Nat) : Int) != u) = false := by simpa using hsum
    have HSUM := Lib.hid hsum
    clear hsum
    obtain ⟨⟨r, m⟩, hr⟩ : ∃ r, bgnR s.l (c, v, u, false, false) s.room = r := ⟨_, rfl⟩
    have BG := begin_any lv s.l (c, v, u, false, false) s.room w1.drew (by omega) (HH1.out.own.rd.drew)
    rw [hr] at BG
    unfold FreshT at BG
    dsimp only at BG
    have HBG := Lib.hid BG
    have HRM := Lib.hid hr
    have q0d : w1.drew.cell? ⟨p, 0, none⟩ = some (.int .i64 s.room) := q0
    have q1d : w1.drew.cell? ⟨p, 1, none⟩ = some lv := q1
    have HHd : Hid (SrvV w1.drew G p k s lv mb F) := HH1.out.below' (Below.refl w1.heap.size w1).drew
    clear BG hr q2
    go_wp2_with fail
    go_region_with (first
        | (refine HBG.out.mono ?_; rintro e w3 ⟨v3, rfl, ho3, hb3⟩; obtain ⟨A3, cap3, e3⟩ := ho3.slice_; subst e3; have HO3 := Lib.hid ho3; have HB3 := Lib.hid hb3; have hh3 := HHd.out.below' hb3; have HH3 := Lib.hid hh3; clear ho3 hb3 hh3)
        | (refine (stake_any p mb s.room lv A3 m.length cap3 r w3 HH3.out.box).mono ?_; rintro e w4 ⟨rfl, hx4, hf4⟩; have HX4 := Lib.hid hx4; have HF4 := Lib.hid hf4; clear hx4 hf4))
    all_goals
      have hx4 := HX4.out
      have hf4 := HF4.out
      have HB2 : Hid (Below w.heap.size w w1.drew) := HB1.out.drew
      have HS2 := Lib.hid HB2.out.size
      have HB3' : Hid (Below w.heap.size w w3) := below_then HB2.out HB3.out
      clear HB3
      have HB3 := HB3'
      clear HB3' q0 q1 q0d q1d HX4 HF4
      by_cases hr0 : r = 0
      · subst hr0
        rw [if_pos rfl] at hx4
        have HS4 := Lib.hid (HH3.out.setL hx4 hf4 (HO3.out.mono (Nat.zero_le _)))
        have HSP : Hid (StepG G (fun i => G i ∨ blk (.slice A3 m.length cap3) = some i) w w4) :=
          ⟨(Fr.of_below HB3.out).trans hf4 (fun i hi => .inl (by rw [show i = p from hi]; exact HH.out.gp)), fun i hi => hi.elim .inl (fun e => .inr (by have := (HO3.out.blk_lt e).1; have := HS2.out; omega))⟩
        have HGW : Hid (∀ i, G i → i < w.heap.size) := fun i hi => HH.out.lt i hi
        obtain ⟨m0, m1, m2⟩ := hx4.three
        have hD4 := HD.out.off HSP.out.1 HOF.out
        have HD4 := Lib.hid (hD4.drew)
        have m2d : (w4.drew).cell? ⟨p, 2, none⟩ = some (.map (some mb)) := m2
        have hxd : Bx w4.drew p _ _ := hx4
        have HXD := Lib.hid hxd
        have HXB := Lib.hid hx4
        have CL := clone_by (.slice Ad n capd) d w4.drew (by rw [HN.out]; omega) (by rw [HN.out]; exact HD4.out)
        have HCL := Lib.hid CL
        have ST := fun (w' : World) (hb : Below w4.drew.heap.size w4.drew w') (v : Value) => ((HS4.out.map.keep (w' := w4.drew) rfl).below' hb).run_store (by unfold maxLen; omega) c true HC.out v
        have HST := Lib.hid ST
        clear hD4 hxd CL ST hx4 hf4
        go_wp2_with fail
        go_region_held3 (fun w' => w'.cell? ⟨p, 2, none⟩ = some (.map (some mb))) (first | exact n6 | exact m2d | go_keep)
          (first | (go_at_call 62; refine HCL.out.mono ?_; rintro e w5 ⟨v5, rfl, ho5, hb5⟩; obtain ⟨w6, hst, hm6, hf6⟩ := HST.out w5 hb5 v5; unfold plV at hst; have HO5 := Lib.hid ho5; have HB5 := Lib.hid hb5; have HM6 := Lib.hid hm6; have HF6 := Lib.hid hf6; have n6 : w5.cell? ⟨p, 2, none⟩ = some (.map (some mb)) := (HXD.out.below' hb5).three.2.2; have n7 : w6.cell? ⟨p, 2, none⟩ = some (.map (some mb)) := (((HXD.out.below' hb5).fr hf6 HS4.out.ne)).three.2.2; obtain ⟨A5, cap5, e5⟩ := ho5.slice_; subst e5; clear ho5 hb5 hm6 hf6))
        go_wp2_with fail
        go_ret
        rw [bgnS_ok (by rw [HN.out]; exact hbig) HSUM.out HRM.out]
        have hb5 : Below w4.heap.size w4 w5 := ((Below.refl w4.heap.size w4).drew).trans HB5.out
        have h5 := HS4.out.below' hb5
        have hof : ∀ g, blk (.slice A5 d.length cap5) = some g → ¬ (G g ∨ blk (.slice A3 m.length cap3) = some g) := fun g hg hG => by
          have h1 : w4.heap.size ≤ g := (HO5.out.blk_lt hg).1
          have h2 := HS4.out.lt g hG
          omega
        have hfin := h5.putM HM6.out HF6.out (HO5.out.mono (Nat.zero_le _)) hof
        refine ⟨_, rfl, ⟨_, _, _, hfin⟩, HSP.out.trans ⟨((Fr.of_below hb5).trans HF6.out (fun i hi => .inl (by rw [show i = mb from hi]; exact HS4.out.gm))), fun i hi => hi.elim .inl (fun e => .inr (HO5.out.blk_lt e).1)⟩⟩
      · have hr' : (r == 0) = false := by simpa using hr0
        rw [if_neg hr0] at hx4
        have HN2 := Lib.hid (bgnS_no (by rw [HN.out]; exact hbig) HSUM.out HRM.out hr0)
        have HX4 := Lib.hid hx4
        have HF4 := Lib.hid hf4
        clear hr0 hx4 hf4
        go_wp2_with fail
        go_ret
        rw [HN2.out]
        have hf : Fr (fun i => i = p) w w4 := (Fr.of_below (S := fun i => i = p) HB3.out).trans HF4.out (fun i hi => .inl hi)
        exact ⟨G, rfl, ⟨lv, mb, F, (HH3.out.same HX4.out HF4.out).mono (Nat.le_succ k)⟩, hf.weak (fun i hi => .inl (by rw [show i = p from hi]; exact HH.out.gp)), fun i hi => .inl hi⟩
  · have hs' : (((sumC d : Nat) : Int) != u) = true := by simpa using hsum
    have HSUM := Lib.hid hsum
    clear hsum
    go_wp2_with fail
    go_ret
    have : bgnS s c v u d = (4, s) := by unfold bgnS; rw [if_neg (by rw [HN.out]; exact hbig), if_pos HSUM.out]
    rw [this]
    exact ⟨G, rfl, ⟨_, _, _, HH1.out.mono (Nat.le_succ k)⟩, StepG.below HB1.out⟩

end Go.Proofs.Ytncgpojjibojlaa

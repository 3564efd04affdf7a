/- table.rises, table.May of one chunk: their contracts, so far as they are asked. -/
import Derived.Test.YtflndnbjdhbppaaIntsF
import Derived.Test.YtflndnbjdhbppaaBox
import Derived.Test.YtflndnbjdhbppaaMem
namespace Go.Proofs.Ytflndnbjdhbppaa
open Go Go.RowKit

def risF (lo hi : Int) : List Int → Prop
  | [] => True
  | n :: l => lo ≤ n ∧ n ≤ hi ∧ risF (n + 1) hi l
theorem risF_all {hi : Int} (l : List Int) : ∀ lo, risF lo hi l → (∀ z ∈ l, lo ≤ z ∧ z ≤ hi) ∧ l.Pairwise (· < ·) := by
  induction l with
  | nil => intro lo _; exact ⟨fun z hz => by simp at hz, List.Pairwise.nil⟩
  | cons n l ih =>
    rintro lo ⟨h1, h2, h3⟩
    obtain ⟨h4, h5⟩ := ih _ h3
    refine ⟨fun z hz => ?_, List.pairwise_cons.2 ⟨fun z hz => by have := h4 z hz; omega, h5⟩⟩
    rcases List.mem_cons.1 hz with rfl | hz
    · exact ⟨h1, h2⟩
    · have := h4 z hz; omega
/-- Numbers that rise, from 1 to 16. -/
def Rises (l : List Int) : Prop := (∀ z ∈ l, 1 ≤ z ∧ z ≤ 16) ∧ l.Pairwise (· < ·)
theorem Rises.nodup {l : List Int} (h : Rises l) : l.Nodup := h.2.imp (fun h => by omega)
theorem Rises.len {l : List Int} (h : Rises l) : l.length ≤ 16 := by
  have h2 : l.length ≤ ((List.range 16).map (fun (k : Nat) => (k : Int) + 1)).length := h.nodup.length_le_of_subset (fun z hz => by
    have := h.1 z hz
    exact List.mem_map.2 ⟨(z - 1).toNat, List.mem_range.2 (by omega), by omega⟩)
  simpa using h2

def RisE (hi : Int) (l : List Int) (w : World) (e : Ending) (w' : World) : Prop := ∃ b : Bool, e = .returned (.bool b) ∧ (b = true → (∀ z ∈ l, 1 ≤ z ∧ z ≤ hi) ∧ l.Pairwise (· < ·)) ∧ w = w'

/-- What is known behind k rounds. -/
theorem rises_snoc {hi : Int} {l : List Int} {k : Nat} {least : Int} (hk : k < l.length) (h : (∀ z ∈ l.take k, 1 ≤ z ∧ z < least ∧ z ≤ hi) ∧ (l.take k).Pairwise (· < ·)) (h0 : 1 ≤ least) (h1 : least ≤ at_ l k) (h2 : at_ l k ≤ hi) :
    (∀ z ∈ l.take (k + 1), 1 ≤ z ∧ z < at_ l k + 1 ∧ z ≤ hi) ∧ (l.take (k + 1)).Pairwise (· < ·) := by
  rw [take_at hk]
  refine ⟨fun z hz => ?_, List.pairwise_append.2 ⟨h.2, List.pairwise_singleton _ _, fun a ha b hb => ?_⟩⟩
  · rcases List.mem_append.1 hz with hz | hz
    · have := h.1 z hz; omega
    · have := List.mem_singleton.1 hz; omega
  · have := h.1 a ha
    have := List.mem_singleton.1 hb
    omega

set_option maxHeartbeats 1000000 in
theorem rises_any (v : Value) (l : List Int) (hi : Int) (w : World) (hh : hi ≤ 1048576) (hR : Rd w 1 v l.length (l.flatMap inC)) :
    Calls Try.prog 43 #[v, .int .i64 1, .int .i64 hi] w (RisE hi l w) := by
  obtain ⟨A, cap, hv, hcap, hnc⟩ := hR.shape
  obtain ⟨n, hn⟩ : ∃ n, l.length = n := ⟨_, rfl⟩
  have HR := Lib.hid hR
  have HN := Lib.hid hn
  rw [hn] at hv hnc
  subst hv
  clear hR hn
  go_enter Try.func43, Try.ntmps43
  go_wp2_with fail
  go_loop [1, 11] (fun s1 i => ∃ (k : Nat) (least : Int), k ≤ n ∧ i = .int .i64 k ∧ s1 = .int .i64 least ∧ 1 ≤ least ∧ least ≤ 1048577 ∧ ((∀ z ∈ l.take k, 1 ≤ z ∧ z < least ∧ z ≤ hi) ∧ (l.take k).Pairwise (· < ·))) (fun _ i => n - (intOf i).toNat)
  case atStart => exact ⟨0, 1, Nat.zero_le _, rfl, rfl, by omega, by omega, by simp⟩
  case round =>
    obtain ⟨k, least, hk, rfl, rfl, hl1, hl2, hall⟩ := hrel
    have HA := Lib.hid hall
    clear hall
    by_cases hlt : k < n
    · have hltI : (k : Int) < (n : Int) := by omega
      have hR1 := HR.out
      rw [HN.out] at hR1
      obtain ⟨b, off, hA, hbl⟩ := hR1.addr (by omega)
      subst hA
      have c0 := rd_int hR1 k (by rw [HN.out]; exact hlt)
      have HSN := Lib.hid (rises_snoc (hi := hi) (l := l) (k := k) (by rw [HN.out]; exact hlt) HA.out hl1)
      obtain ⟨x, hx⟩ : ∃ x, at_ l k = x := ⟨_, rfl⟩
      rw [hx] at c0 HSN
      clear hx hR1
      by_cases h1 : x < least
      · go_wp2
        go_ret
        exact ⟨_, rfl, (fun h => by cases h), rfl⟩
      · by_cases h2 : x > hi
        · go_wp2
          go_ret
          exact ⟨_, rfl, (fun h => by cases h), rfl⟩
        · go_wp2
          go_round
          case rel => exact ⟨k + 1, x + 1, by omega, by go_num, by go_num, by omega, by omega, HSN.out (by omega) (by omega)⟩
          case measure => simp [intOf]; omega
    · obtain rfl : k = n := by omega
      go_wp2
      go_ret
      refine ⟨_, rfl, fun _ => ?_, rfl⟩
      have h3 := HA.out
      rw [← HN.out, List.take_length] at h3
      exact ⟨fun z hz => by have := h3.1 z hz; omega, h3.2⟩

def MayE (h : List Int) (w : World) (e : Ending) (w' : World) : Prop := ∃ b : Bool, e = .returned (.bool b) ∧ (b = true → Rises h) ∧ Below w.heap.size w w'

set_option maxHeartbeats 2000000 in
theorem tmay_any (c0 c1 c2 : Int) (vh : Value) (h : List Int) (b : Nat) (w : World) (hbx : Bx w b 39 [.int .i64 c0, .int .i64 c1, .int .u32 c2, vh]) (hH : Rd w 1 vh h.length (h.flatMap inC)) :
    Calls Try.prog 25 #[.slice (some ⟨b, 0, none⟩) 1 1] w (MayE h w) := by
  obtain ⟨ii, hii, hz0, hz1, hz2⟩ := info_parts info_in
  obtain ⟨q0, q1, q2, q3⟩ := hbx.four
  obtain ⟨Ah, caph, hvh, _, _⟩ := hH.shape
  subst hvh
  have HH := Lib.hid hH
  clear hbx hH
  go_enter Try.func25, Try.ntmps25
  go_wp2_with fail
  refine wp_loop_rounds 2 ?_
  rw [rounds_succ]
  have hs0 : (w.alloc (.cells #[.int .i64 c0, .int .i64 c1, .int .u32 c2, .slice Ah h.length caph] 39)).heap.size = w.heap.size + 1 := World.size_alloc _ _
  have hal := below_one w (.cells #[.int .i64 c0, .int .i64 c1, .int .u32 c2, .slice Ah h.length caph] 39)
  have HAL := Lib.hid hal
  have hbn := Bx.new w 39 [.int .i64 c0, .int .i64 c1, .int .u32 c2, .slice Ah h.length caph]
  have HBN := Lib.hid hbn
  clear hal hbn
  have HS := Lib.hid hs0
  clear hs0
  by_cases h1 : c1 < 1
  · go_wp2_with fail
    go_ret
    exact ⟨_, rfl, (fun h => by cases h), HAL.out⟩
  by_cases h2 : c1 > 1073741824
  · go_wp2_with fail
    go_ret
    exact ⟨_, rfl, (fun h => by cases h), HAL.out⟩
  go_wp2_with fail
  refine (rises_any _ h 16 _ (by omega) (HH.out.below HAL.out (Nat.le_refl _))).mono ?_
  rintro e w2 ⟨br, rfl, hbr, rfl⟩
  cases br with
  | false =>
    go_wp2_with fail
    go_ret
    exact ⟨_, rfl, (fun h => by cases h), HAL.out⟩
  | true =>
    have HBR := Lib.hid (hbr rfl)
    clear hbr q0 q1 q2 q3
    generalize (w.alloc (.cells #[.int .i64 c0, .int .i64 c1, .int .u32 c2, .slice Ah h.length caph] 39)) = w2 at *
    obtain ⟨q0, _, _, _⟩ := HBN.out.four
    obtain ⟨B, hB⟩ : ∃ B, w.heap.size = B := ⟨_, rfl⟩
    rw [hB] at HAL HBN HS q0 ⊢
    have HBZ := Lib.hid hB
    clear hB
    go_wp2_with (at_builtin; refine wpList_append_seg rfl _ _ 37 rfl w2.heap.size 3 ii _ 1 8 (by kernel_rfl) hii hz0 hz1 hz2 rfl (by omega) (.slice none 0 0) 0 [] rfl (Own.nil_ _ _ _ _) (.slice (some ⟨w2.heap.size, 0, none⟩) 1 1) 1 (inC c0) rfl (rd_one (t := 3) (heap_alloc_new _ _) rfl) (by simp [inC, Value.oneCell']) (by unfold maxLen; omega) (by omega) (by simp) ?_; intro v4 w4 hown4 hfr4 hb4 _; obtain ⟨A4, cap4, hv4⟩ := hown4.slice_; subst hv4; have HO4 := Lib.hid hown4; have HF4 := Lib.hid (hfr4.below (B := w2.heap.size) (by simp) (fun k hk => by simp [blk] at hk)); clear hown4 hfr4 hb4)
    rw [rounds_succ]
    have HB4 : Hid (Below B w w4) := HAL.out.trans (((below_one w2 _).mono (by have := HS.out; omega)).trans (HF4.out.mono (by have := HS.out; omega)))
    go_wp2_with fail
    refine (rises_any _ [c0] 1048576 _ (by omega) HO4.out.rd).mono ?_
    rintro e w5 ⟨br2, rfl, _, rfl⟩
    go_wp2_with fail
    go_ret
    exact ⟨_, rfl, fun _ => HBR.out, by rw [HBZ.out]; exact HB4.out⟩

end Go.Proofs.Ytflndnbjdhbppaa

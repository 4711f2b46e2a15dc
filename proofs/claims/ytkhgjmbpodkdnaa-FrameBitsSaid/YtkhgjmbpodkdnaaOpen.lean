/- frame.Open: the walk. -/
import Derived.Test.YtkhgjmbpodkdnaaOpenLaw
import Derived.Test.YtkhgjmbpodkdnaaNum
import Derived.Test.YtkhgjmbpodkdnaaClone8
import Derived.Deep.RegionHeld3
namespace Go.Proofs.Ytkhgjmbpodkdnaa
open Go.RowKit
theorem Reads.drop {w : World} {B n k : Nat} {ad : Addr} {xs : List UInt8} (h : Reads w B 1 (some ad) n (u8s xs)) (hk : k ≤ n) : Reads w B 1 (some (ad.add k)) (n - k) (u8s (xs.drop k)) := by
  have hl := h.len8
  refine ⟨by rw [u8s_length, List.length_drop]; omega, fun hn => ?_⟩
  obtain ⟨a, e, hb, hc⟩ := h.2 (by omega)
  cases e
  refine ⟨_, rfl, by rw [block_of_add]; exact hb, fun j u hu => ?_⟩
  rw [add_of_add]
  refine hc _ u ?_
  rw [← hu]
  simp [u8s]
theorem Reads.take8 {w : World} {B n k : Nat} {A : Option Addr} {xs : List UInt8} (h : Reads w B 1 A n (u8s xs)) (hk : k ≤ n) : Reads w B 1 A k (u8s (xs.take k)) := by
  have hl := h.len8
  refine ⟨by rw [u8s_length, List.length_take]; omega, fun hn => ?_⟩
  obtain ⟨a, e, hb, hc⟩ := h.2 (by omega)
  refine ⟨a, e, hb, fun j u hu => hc j u ?_⟩
  obtain ⟨hj, rfl⟩ := u8s_get hu
  rw [List.length_take] at hj
  simp [u8s, List.getElem?_eq_getElem (show j < xs.length by omega)]
theorem Reads.empty8 (w : World) (B : Nat) (A : Option Addr) {xs : List UInt8} (h : xs = []) : Reads w B 1 A 0 (u8s xs) := by
  subst h
  exact ⟨rfl, fun h => absurd h (by omega)⟩
theorem Reads.nth {w : World} {B n k : Nat} {ad : Addr} {xs : List UInt8} (h : Reads w B 1 (some ad) n (u8s xs)) (hk : k < n) : w.cell? (ad.add k) = some (.int .u8 ((xs.getD k 0).toNat : Int)) := by
  obtain ⟨a, e, hb, hk', hc⟩ := h.byte hk
  cases e
  rw [hc, List.getD_eq_getElem?_getD, List.getElem?_eq_getElem hk']
  rfl
def OpenPost (b : List UInt8) (w : World) (e : Ending) (w' : World) : Prop :=
  ∃ A c, e = .returned (.tuple #[.int .i64 (openK b : Nat), .slice A (openD b).length c, .int .i64 (openE b)]) ∧ w'.ownsRow w.heap.size 5 1 (.slice A (openD b).length c) (openD b).length (u8s (openD b)) ∧ Below w.heap.size w w'
theorem OpenPost.no {b : List UInt8} {w w' : World} {x : Int} (h : openE b = x) (h0 : x ≠ 0) (hb : Below w.heap.size w w') : OpenPost b w (.returned (.tuple #[.int .i64 0, .slice none 0 0, .int .i64 x])) w' := by
  have h1 : openE b ≠ 0 := by rw [h]; exact h0
  unfold OpenPost openK openD
  rw [if_neg h1, if_neg h1, h]
  exact ⟨none, 0, rfl, World.ownsRow_nil _ _ _ _, hb⟩
theorem OpenPost.yes {b : List UInt8} {w w' : World} {A : Option Addr} {n c : Nat} {k : Int} (h : openE b = 0) (hk : k = ((b.getD 4 0).toNat : Int)) (ho : w'.ownsRow w.heap.size 5 1 (.slice A n c) n (u8s ((b.drop 7).take (lenAt b)))) (hb : Below w.heap.size w w') :
    OpenPost b w (.returned (.tuple #[.int .i64 k, .slice A n c, .int .i64 0])) w' := by
  obtain ⟨A', c', he, ho, hb⟩ := Own8.mk ho hb
  injection he with he
  unfold OpenPost openK openD
  rw [if_pos h, if_pos h, h]
  exact ⟨A', c', by rw [he, hk], ho, hb⟩
theorem numR_four (b : List UInt8) (h : b.length = 512) : numR b 0 4 = (((numL (b.take 4) : Nat) : Int), 0) := by
  have := numR_ok (xs := b) (k := 0) (s := 4) (by omega) (by omega) (by omega)
  simpa using this
theorem numR_two (b : List UInt8) (h : b.length = 512) : numR b 5 2 = (((lenAt b : Nat) : Int), 0) := by
  have := numR_ok (xs := b) (k := 5) (s := 2) (by omega) (by omega) (by omega)
  rw [num_two b h] at this
  exact this
set_option maxHeartbeats 400000 in
theorem open_short (xs : List UInt8) (A : Option Addr) (n cap : Nat) (w : World) (hl : xs.length = n) (hn : n ≠ 512) :
    Calls Try.prog 21 #[.slice A n cap] w (OpenPost xs w) := by
  have hne : ((n : Int) != 512) = true := by simp; omega
  go_enter Try.func21, Try.ntmps21
  go_wp2
  go_ret3
  exact OpenPost.no (openE_short (by omega)) (by omega) (Below.refl _ _)
theorem cell_blk {W : World} {a : Addr} {v : Value} (h : W.cell? a = some v) : a.block < W.heap.size := by
  rcases Nat.lt_or_ge a.block W.heap.size with hlt | hge
  · exact hlt
  · unfold World.cell? at h
    rw [Array.getElem?_eq_none hge] at h
    cases h
theorem crcS_le (l : List UInt8) : ((crcS l : Nat) : Int) ≤ 4294967295 := by unfold crcS; omega
set_option maxHeartbeats 800000 in
theorem open_sum (xs : List UInt8) (ad : Addr) (cap : Nat) (w : World) (hr : Reads w w.heap.size 1 (some ad) 512 (u8s xs)) (hc : 512 ≤ cap) (hc2 : cap ≤ 9223372036854775807) (hs : numL (xs.take 4) ≠ crcS (xs.drop 4)) :
    Calls Try.prog 21 #[.slice (some ad) 512 cap] w (OpenPost xs w) := by
  have hl := hr.len8
  have H4 := Lib.hid (numR_four xs hl)
  have hr4 := hr.drop (k := 4) (by omega)
  have hsl := crcS_le (xs.drop 4)
  have hne : (((numL (xs.take 4) : Nat) : Int) != ((crcS (xs.drop 4) : Nat) : Int)) = true := by simp; omega
  have HS := Lib.hid (openE_sum hl hs)
  clear hs hl
  go_enter Try.func21, Try.ntmps21
  go_wp2_with fail
  refine (num_any xs _ _ _ _ _ _ hr hc hc2 (by omega) (by omega)).mono ?_
  rintro e w1 ⟨rfl, rfl⟩
  rw [H4.out]
  go_wp2_with fail
  refine (sum_any (xs.drop 4) _ _ _ _ hr4 (by omega)).mono ?_
  rintro e w2 ⟨rfl, hb⟩
  go_wp2_with fail
  go_ret3
  exact OpenPost.no HS.out (by omega) hb
theorem openE_text1 {b : List UInt8} (h : b.length = 512) (h2 : numL (b.take 4) = crcS (b.drop 4)) (h3 : (b.getD 4 0).toNat = 0) : openE b = 11 := openE_text h h2 (.inl h3)
set_option maxHeartbeats 1600000 in
theorem open_text (xs : List UInt8) (ad : Addr) (cap : Nat) (w : World) (hr : Reads w w.heap.size 1 (some ad) 512 (u8s xs)) (hc : 512 ≤ cap) (hc2 : cap ≤ 9223372036854775807) (hs : numL (xs.take 4) = crcS (xs.drop 4)) (h3 : (xs.getD 4 0).toNat = 0 ∨ 505 < lenAt xs) :
    Calls Try.prog 21 #[.slice (some ad) 512 cap] w (OpenPost xs w) := by
  have hl := hr.len8
  have H4 := Lib.hid (numR_four xs hl)
  have H2 := Lib.hid (numR_two xs hl)
  have hr4 := hr.drop (k := 4) (by omega)
  have hn4 := hr.nth (k := 4) (by omega)
  have hsl := crcS_le (xs.drop 4)
  have hne : (((numL (xs.take 4) : Nat) : Int) != ((crcS (xs.drop 4) : Nat) : Int)) = false := by rw [hs]; simp
  have HS := Lib.hid (openE_text hl hs (by rcases h3 with h | h; exact .inl h; exact .inr (.inl h)))
  clear hs hl
  obtain ⟨k, hk⟩ : ∃ k, k = (xs.getD 4 0).toNat := ⟨_, rfl⟩
  rw [← hk] at hn4 h3
  clear hk
  by_cases h0 : k = 0
  · subst h0
    clear h3
    go_enter Try.func21, Try.ntmps21
    go_wp2_with fail
    refine (num_any xs _ _ _ _ _ _ hr hc hc2 (by omega) (by omega)).mono ?_
    rintro e w1 ⟨rfl, rfl⟩
    rw [H4.out]
    go_wp2_with fail
    refine (sum_any (xs.drop 4) _ _ _ _ hr4 (by omega)).mono ?_
    rintro e w2 ⟨rfl, hb⟩
    have hn4' : w2.cell? ⟨ad.block, ad.off + 4, none⟩ = some (.int .u8 0) := (hb.cell (cell_blk hn4)).trans hn4
    have hr2 := hr.on hb
    clear hn4
    go_wp2_with fail
    refine (num_any xs _ _ _ _ _ _ hr2 hc hc2 (by omega) (by omega)).mono ?_
    rintro e w3 ⟨rfl, rfl⟩
    rw [H2.out]
    go_wp2_with fail
    go_ret3
    exact OpenPost.no HS.out (by omega) hb
  · have h5 : 505 < lenAt xs := by rcases h3 with h | h; exact absurd h h0; exact h
    have hk0 : ((k : Int) == 0) = false := by simp; omega
    have hlen : ((lenAt xs : Nat) : Int) ≤ 65535 := by
      have h1 := (xs.getD 5 0).toNat_lt
      have h2 := (xs.getD 6 0).toNat_lt
      unfold lenAt; omega
    clear h3
    go_enter Try.func21, Try.ntmps21
    go_wp2_with fail
    refine (num_any xs _ _ _ _ _ _ hr hc hc2 (by omega) (by omega)).mono ?_
    rintro e w1 ⟨rfl, rfl⟩
    rw [H4.out]
    go_wp2_with fail
    refine (sum_any (xs.drop 4) _ _ _ _ hr4 (by omega)).mono ?_
    rintro e w2 ⟨rfl, hb⟩
    have hn4' : w2.cell? ⟨ad.block, ad.off + 4, none⟩ = some (.int .u8 (k : Int)) := (hb.cell (cell_blk hn4)).trans hn4
    have hr2 := hr.on hb
    clear hn4
    go_wp2_with fail
    refine (num_any xs _ _ _ _ _ _ hr2 hc hc2 (by omega) (by omega)).mono ?_
    rintro e w3 ⟨rfl, rfl⟩
    rw [H2.out]
    go_wp2_with fail
    go_ret3
    exact OpenPost.no HS.out (by omega) hb
end Go.Proofs.Ytkhgjmbpodkdnaa

/- frame.Open: the walk, on. -/
import Derived.Test.YtkhgjmbpodkdnaaOpen
import Derived.IntWalk
namespace Go.Proofs.Ytkhgjmbpodkdnaa
open Go.RowKit
theorem lenAt_le (b : List UInt8) : lenAt b ≤ 65535 := by
  have h1 := (b.getD 5 0).toNat_lt
  have h2 := (b.getD 6 0).toNat_lt
  unfold lenAt; omega
theorem Own8.len {xs : List UInt8} {L : Nat} {w w' : World} {e : Ending} (h : Own8 xs w e w') (hl : xs.length = L) : ∃ A c, e = .returned (.slice A L c) ∧ w'.ownsRow w.heap.size 5 1 (.slice A L c) L (u8s xs) ∧ Below w.heap.size w w' := by
  subst hl; exact h
set_option maxHeartbeats 1600000 in
theorem open_last (xs : List UInt8) (ad : Addr) (cap : Nat) (w : World) (hr : Reads w w.heap.size 1 (some ad) 512 (u8s xs)) (hc : 512 ≤ cap) (hc2 : cap ≤ 9223372036854775807) (hs : numL (xs.take 4) = crcS (xs.drop 4)) (h3 : (xs.getD 4 0).toNat ≠ 0) (h5 : lenAt xs ≤ 505) :
    Calls Try.prog 21 #[.slice (some ad) 512 cap] w (OpenPost xs w) := by
  have hl := hr.len8
  have H4 := Lib.hid (numR_four xs hl)
  have H2 := Lib.hid (numR_two xs hl)
  have hr4 := hr.drop (k := 4) (by omega)
  have hn4 := hr.nth (k := 4) (by omega)
  have hsl := crcS_le (xs.drop 4)
  have hne : (((numL (xs.take 4) : Nat) : Int) != ((crcS (xs.drop 4) : Nat) : Int)) = false := by rw [hs]; simp
  have HT := Lib.hid (fun h => openE_text hl hs (.inr (.inr h)))
  have HO := Lib.hid (fun (h : nz (xs.drop (7 + lenAt xs)) = false) => openE_ok hl hs (fun hh => by rcases hh with hh | hh | hh; exact h3 hh; omega; rw [h] at hh; cases hh))
  have HL := Lib.hid hl
  clear hs hl
  obtain ⟨k, hk⟩ : ∃ k, k = (xs.getD 4 0).toNat := ⟨_, rfl⟩
  have hk255 : k ≤ 255 := by rw [hk]; have := (xs.getD 4 0).toNat_lt; omega
  rw [← hk] at hn4 h3
  have HK := Lib.hid hk
  clear hk
  have hk0 : ((k : Int) == 0) = false := by simp; omega
  obtain ⟨L, hL⟩ : ∃ L, L = lenAt xs := ⟨_, rfl⟩
  rw [← hL] at h5 HT HO H2
  have HLL := Lib.hid hL
  clear hL h3
  have hw7 : IntKind.i64.wrap (7 + (L : Int)) = 7 + (L : Int) := IntWalk.i64_in _ (by omega)
  have h07 : (0 : Int) ≤ 7 + (L : Int) := by omega
  have ht7 : (7 + (L : Int)).toNat = 7 + L := by omega
  have HW := Lib.hid (And.intro hw7 (And.intro h07 ht7))
  clear hw7 h07 ht7
  have hcase : cap = 7 + L ∨ 7 + L < cap := by omega
  rcases hcase with rfl | hcap
  all_goals
    go_enter Try.func21, Try.ntmps21
    go_wp2_with fail
    refine (num_any xs _ _ _ _ _ _ hr hc hc2 (by omega) (by omega)).mono ?_
    rintro e w1 ⟨rfl, rfl⟩
    rw [H4.out]
    go_wp2_with fail
    refine (sum_any (xs.drop 4) _ _ _ _ hr4 (by omega)).mono ?_
    rintro e w2 ⟨rfl, hb⟩
    have hn4' : w2.cell? ⟨ad.block, ad.off + 4, none⟩ = some (.int .u8 (k : Int)) := (hb.cell (cell_blk hn4)).trans hn4
    have hr2 := hr.on hb
    clear hn4 hr4 hr
    go_wp2_with fail
    refine (num_any xs _ _ _ _ _ _ hr2 hc hc2 (by omega) (by omega)).mono ?_
    rintro e w3 ⟨rfl, rfl⟩
    rw [H2.out]
    go_wp2_with fail
    have hcon : Hid (Reads w2 w2.heap.size 1 (some (ad.add (7 + L))) (512 - (7 + L)) (u8s (xs.drop (7 + L))) ∧ (512 - (7 + L) = 0 → Reads w2 w2.heap.size 1 (some ad) 0 (u8s (xs.drop (7 + L))))) :=
      ⟨hr2.drop (k := 7 + L) (by omega), fun _ => Reads.empty8 _ _ _ (List.drop_eq_nil_of_le (by rw [HL.out]; omega))⟩
    refine (contains_any (xs.drop (7 + L)) _ _ _ _ ?hh (by omega)).mono ?_
    case hh => first | exact hcon.out.1 | exact hcon.out.2 (by omega)
    clear hcon
    rintro e w3 ⟨rfl, rfl⟩
    rcases hz : nz (xs.drop (7 + L)) with _ | _
    · have HZ := Lib.hid (HO.out hz)
      clear hz HO HT
      go_wp2_with fail
      have hd7 := (hr2.drop (k := 7) (by omega)).take8 (k := L) (by omega)
      have hlL : ((xs.drop 7).take L).length = L := by rw [List.length_take, List.length_drop, HL.out]; omega
      obtain ⟨hw7, h07, ht7⟩ := HW.out
      have hwk : IntKind.i64.wrap (k : Int) = (k : Int) := IntWalk.i64_in _ (by omega)
      have hwk2 : wrap64 (k : Int) = (k : Int) := IntWalk.wrap64_in _ (by omega)
      have HD := Lib.hid hd7
      have HLL2 := Lib.hid hlL
      have hn5 : w2.drew.cell? ⟨ad.block, ad.off + 4, none⟩ = some (.int .u8 (k : Int)) := hn4'
      have hbl : ad.block < w2.heap.size := cell_blk (a := ⟨ad.block, ad.off + 4, none⟩) hn4'
      have HD' : Hid (Reads w2.drew w2.drew.heap.size 1 (some (ad.add 7)) L (u8s ((xs.drop 7).take L))) := hd7
      have hbd : Below w.heap.size w w2.drew := hb.drew
      have hbl' : ad.block < w2.drew.heap.size := hbl
      clear hd7 hlL hr2 HD hn4' hb hbl
      go_region_with (first
          | (go_simp; go_at_call 23; refine (clone8_any ((xs.drop 7).take L) _ _ _ _ HD'.out (by omega)).mono ?_; intro e w5 ho5; obtain ⟨A5, c5, rfl, ho5, hb5⟩ := ho5.len HLL2.out
             have hn6 := (hb5.cell (p := ⟨ad.block, ad.off + 4, none⟩) hbl').trans hn5))
      all_goals
        go_wp2
        go_ret3
        exact OpenPost.yes (k := (k : Int)) HZ.out (congrArg Nat.cast HK.out) (by rw [← HLL.out]; exact own_mono ho5 hbd.size) (below_on hbd (Nat.le_refl _) hb5)
    · have HZ := Lib.hid (HT.out hz)
      clear hz HO HT
      go_wp2_with fail
      go_ret3
      exact OpenPost.no HZ.out (by omega) hb
theorem open_any (xs : List UInt8) (A : Option Addr) (n cap : Nat) (w : World) (hr : Reads w w.heap.size 1 A n (u8s xs)) (hc : n ≤ cap) (hc2 : cap ≤ 9223372036854775807) :
    Calls Try.prog 21 #[.slice A n cap] w (OpenPost xs w) := by
  by_cases hn : n = 512
  · subst hn
    obtain ⟨ad, rfl, _, _⟩ := hr.2 (by omega)
    by_cases hs : numL (xs.take 4) = crcS (xs.drop 4)
    · by_cases h3 : (xs.getD 4 0).toNat = 0 ∨ 505 < lenAt xs
      · exact open_text xs ad cap w hr hc hc2 hs h3
      · exact open_last xs ad cap w hr hc hc2 hs (fun h => h3 (.inl h)) (by rcases Nat.lt_or_ge 505 (lenAt xs) with h | h; exact absurd (.inr h) h3; exact h)
    · exact open_sum xs ad cap w hr hc hc2 hs
  · exact open_short xs A n cap w hr.len8 hn
end Go.Proofs.Ytkhgjmbpodkdnaa

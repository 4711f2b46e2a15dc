/- merestoneref01.Open: the walk. -/
import Derived.Test.YtkhgjmbpodkdnaaOpen2
import Derived.Test.YtkhgjmbpodkdnaaNumRef
import Derived.Test.YtkhgjmbpodkdnaaSumR
import Derived.Test.YtkhgjmbpodkdnaaSealR
namespace Go.Proofs.Ytkhgjmbpodkdnaa
open Go.RowKit
set_option maxHeartbeats 400000 in
theorem openR_short (xs : List UInt8) (A : Option Addr) (n cap : Nat) (w : World) (hl : xs.length = n) (hn : n ≠ 512) :
    Calls Try.prog 22 #[.slice A n cap] w (OpenPost xs w) := by
  have hne : ((n : Int) != 512) = true := by simp; omega
  go_enter Try.func22, Try.ntmps22
  go_wp2
  go_ret3
  exact OpenPost.no (openE_short (by omega)) (by omega) (Below.refl _ _)
set_option maxHeartbeats 800000 in
theorem openR_sum (xs : List UInt8) (ad : Addr) (cap : Nat) (w : World) (hr : Reads w w.heap.size 1 (some ad) 512 (u8s xs)) (hc : 512 ≤ cap) (hc2 : cap ≤ 9223372036854775807) (hs : numL (xs.take 4) ≠ crcS (xs.drop 4)) :
    Calls Try.prog 22 #[.slice (some ad) 512 cap] w (OpenPost xs w) := by
  have hl := hr.len8
  have H4 := Lib.hid (numR_four xs hl)
  have hr4 := hr.drop (k := 4) (by omega)
  have hsl := crcS_le (xs.drop 4)
  have hne : (((numL (xs.take 4) : Nat) : Int) != ((crcS (xs.drop 4) : Nat) : Int)) = true := by simp; omega
  have HS := Lib.hid (openE_sum hl hs)
  clear hs hl
  go_enter Try.func22, Try.ntmps22
  go_wp2_with fail
  refine (numRef_any xs _ _ _ _ _ _ hr hc hc2 (by omega) (by omega)).mono ?_
  rintro e w1 ⟨rfl, rfl⟩
  rw [H4.out]
  go_wp2_with fail
  refine (sumR_any (xs.drop 4) _ _ _ _ hr4 (by omega)).mono ?_
  rintro e w2 ⟨rfl, rfl⟩
  go_wp2_with fail
  go_ret3
  exact OpenPost.no HS.out (by omega) (Below.refl _ _)
set_option maxRecDepth 100000 in
set_option maxHeartbeats 1600000 in
theorem openR_rest (xs : List UInt8) (ad : Addr) (cap : Nat) (w : World) (hr : Reads w w.heap.size 1 (some ad) 512 (u8s xs)) (hc : 512 ≤ cap) (hc2 : cap ≤ 9223372036854775807) (hs : numL (xs.take 4) = crcS (xs.drop 4)) :
    Calls Try.prog 22 #[.slice (some ad) 512 cap] w (OpenPost xs w) := by
  obtain ⟨i0, hi0, hz0, hz1, hz2⟩ := info_parts info_u8
  have hl := hr.len8
  have H4 := Lib.hid (numR_four xs hl)
  have hr4 := hr.drop (k := 4) (by omega)
  have hn4 : w.cell? ⟨ad.block, ad.off + 4, none⟩ = _ := hr.nth (k := 4) (by omega)
  have hn5 : w.cell? ⟨ad.block, ad.off + 5, none⟩ = _ := hr.nth (k := 5) (by omega)
  have hn6 : w.cell? ⟨ad.block, ad.off + 6, none⟩ = _ := hr.nth (k := 6) (by omega)
  have hsl := crcS_le (xs.drop 4)
  have hne : (((numL (xs.take 4) : Nat) : Int) != ((crcS (xs.drop 4) : Nat) : Int)) = false := by rw [hs]; simp
  have HT := Lib.hid (openE_text hl hs)
  have HO := Lib.hid (openE_ok hl hs)
  have HL := Lib.hid hl
  clear hs hl
  obtain ⟨k, hk⟩ : ∃ k, k = (xs.getD 4 0).toNat := ⟨_, rfl⟩
  have hk255 : k ≤ 255 := by rw [hk]; have := (xs.getD 4 0).toNat_lt; omega
  obtain ⟨p, hp⟩ : ∃ p, p = (xs.getD 5 0).toNat := ⟨_, rfl⟩
  have hp255 : p ≤ 255 := by rw [hp]; have := (xs.getD 5 0).toNat_lt; omega
  obtain ⟨q, hq⟩ : ∃ q, q = (xs.getD 6 0).toNat := ⟨_, rfl⟩
  have hq255 : q ≤ 255 := by rw [hq]; have := (xs.getD 6 0).toNat_lt; omega
  have hL : lenAt xs = p * 256 + q := by rw [hp, hq]; rfl
  rw [← hk] at hn4 HT HO
  rw [← hp] at hn5
  rw [← hq] at hn6
  have HK := Lib.hid hk
  clear hk hp hq
  obtain ⟨L, hL2⟩ : ∃ L, L = p * 256 + q := ⟨_, rfl⟩
  rw [hL, ← hL2] at HT HO
  have hwp : IntKind.i64.wrap (p : Int) = (p : Int) := IntWalk.i64_in _ (by omega)
  have hwq : IntKind.i64.wrap (q : Int) = (q : Int) := IntWalk.i64_in _ (by omega)
  have hwm : IntKind.i64.wrap ((p : Int) * 256) = (p : Int) * 256 := IntWalk.i64_in _ (by omega)
  have hws : IntKind.i64.wrap ((p : Int) * 256 + (q : Int)) = (L : Int) := by rw [hL2, IntWalk.i64_in _ (by omega)]; omega
  have HLL := Lib.hid (hL.trans hL2.symm)
  have HW := Lib.hid (And.intro hwp (And.intro hwq (And.intro hwm hws)))
  clear hL hL2 hwp hwq hwm hws
  go_enter Try.func22, Try.ntmps22
  go_wp2_with fail
  refine (numRef_any xs _ _ _ _ _ _ hr hc hc2 (by omega) (by omega)).mono ?_
  rintro e w1 ⟨rfl, rfl⟩
  rw [H4.out]
  go_wp2_with fail
  refine (sumR_any (xs.drop 4) _ _ _ _ hr4 (by omega)).mono ?_
  rintro e w2 ⟨rfl, rfl⟩
  go_wp2_with fail
  obtain ⟨hwp, hwq, hwm, hws⟩ := HW.out
  go_quiet (fail)
  clear hwp hwq hwm hws HW
  have hbW : Below w.heap.size w (w.drewN nq) := below_drewN (Below.refl _ _) nq
  have hcW : ∀ p, (w.drewN nq).cell? p = w.cell? p := fun _ => rfl
  generalize w.drewN nq = W at hbW hcW ⊢
  have hrW := hr.on hbW
  have hn4W := (hcW _).trans hn4
  clear hcW hn5 hn6 hr4 hr H4
  by_cases h0 : k = 0
  · subst h0
    have HZ := Lib.hid (HT.out (.inl rfl))
    have h00 : (((0 : Nat) : Int) == 0) = true := rfl
    clear HT HO
    go_wp2
    go_ret3
    exact OpenPost.no HZ.out (by omega) hbW
  have hk0 : ((k : Int) == 0) = false := by simp; omega
  by_cases h5 : 505 < L
  · have HZ := Lib.hid (HT.out (.inr (.inl h5)))
    clear HT HO
    go_wp2
    go_ret3
    exact OpenPost.no HZ.out (by omega) hbW
  · have HT2 := Lib.hid (fun h => HT.out (.inr (.inr h)))
    have HO2 := Lib.hid (fun (h : nz (xs.drop (7 + L)) = false) => HO.out (fun hh => by rcases hh with hh | hh | hh; exact h0 hh; exact h5 hh; rw [h] at hh; cases hh))
    clear HT HO
    go_wp2
    obtain ⟨u7, hu7⟩ : ∃ u7, u7 = 7 + L := ⟨_, rfl⟩
    go_loop [8] (fun i => ∃ j : Nat, 7 + L ≤ j ∧ j ≤ 512 ∧ Hid (nz ((xs.drop (7 + L)).take (j - (7 + L))) = false) ∧ i = .int .i64 (j : Int)) (fun i => 512 - (intOf i).toNat)
    case atStart => exact ⟨7 + L, Nat.le_refl _, by omega, by show nz _ = _; rw [Nat.sub_self]; rfl, by go_num⟩
    case round =>
      obtain ⟨j, hj1, hj2, hz, rfl⟩ := hrel
      by_cases hlt : j < 512
      · have hcj := hrW.nth (k := j) (by omega)
        have hnt := nz_take (xs.drop (7 + L)) (j - (7 + L)) (by rw [List.length_drop, HL.out]; omega)
        rw [hz.out, Bool.false_or, show j - (7 + L) + 1 = j + 1 - (7 + L) from by omega] at hnt
        have hge : (xs.drop (7 + L))[j - (7 + L)]'(by rw [List.length_drop, HL.out]; omega) = xs.getD j 0 := by
          rw [List.getElem_drop, List.getD_eq_getElem?_getD, List.getElem?_eq_getElem (by rw [HL.out]; omega)]
          simp only [show 7 + L + (j - (7 + L)) = j from by omega]
          rfl
        rw [hge] at hnt
        obtain ⟨x, hx⟩ : ∃ x, x = (xs.getD j 0).toNat := ⟨_, rfl⟩
        rw [← hx] at hcj hnt
        have HN := Lib.hid hnt
        clear hx hge hnt
        by_cases hx0 : 0 < x
        · have hd : decide (0 < x) = true := by simpa using hx0
          have hne0 : ((x : Int) != 0) = true := by simp; omega
          have HZ := Lib.hid (HT2.out (nz_mono _ _ (by rw [HN.out, hd])))
          clear HN HO2 HT2 hd
          go_wp2
          go_ret3
          exact OpenPost.no HZ.out (by omega) hbW
        · have hd : decide (0 < x) = false := by simpa using hx0
          have hne0 : ((x : Int) != 0) = false := by simp; omega
          rw [hd] at HN
          clear HO2 HT2 hd
          go_wp2
          go_round
          case rel => exact ⟨j + 1, by omega, by omega, HN, by go_num⟩
          case measure => simp [intOf]; omega
      · have hzz : nz (xs.drop (7 + L)) = false := by
          have := hz.out
          rwa [List.take_of_length_le (by rw [List.length_drop, HL.out]; omega)] at this
        have HZ := Lib.hid (HO2.out hzz)
        have hd7 : Reads W W.heap.size 1 (some (ad.add 7)) L (u8s ((xs.drop 7).take L)) := (hrW.drop (k := 7) (by omega)).take8 (k := L) (by omega)
        have HD := Lib.hid hd7
        have hwk : IntKind.i64.wrap (k : Int) = (k : Int) := IntWalk.i64_in _ (by omega)
        have hw7 : IntKind.i64.wrap (7 + (L : Int)) = 7 + (L : Int) := IntWalk.i64_in _ (by omega)
        have ht7 : (7 + (L : Int)).toNat = 7 + L := by omega
        have hs7 : (7 : Int) ≤ 7 + (L : Int) := by omega
        have hsc : 7 + (L : Int) ≤ (cap : Int) := by omega
        have hs0 : (0 : Int) ≤ 7 + (L : Int) := by omega
        have hc7 : ¬ cap = 7 := by omega
        have hn4B : (W.drew.alloc (.cells #[] 5)).cell? ⟨ad.block, ad.off + 4, none⟩ = some (.int .u8 (k : Int)) := (World.cell?_alloc_lt _ _ _ (cell_blk (W := W.drew) hn4W)).trans hn4W
        clear hz hzz HT2 HO2 hd7
        go_wp2_with fail
        refine wp_region_held_drew (S := fun W' => W'.cell? ⟨ad.block, ad.off + 4, none⟩ = some (.int .u8 (k : Int))) (by kernel_rfl) ?_ (fun hHeld => ?_)
        · exact hn4W
        refine wpAnyH_take (i := 0) (v := ?_) rfl (by kernel_rfl) (by kernel_rfl) (by kernel_rfl) (fun _ _ _ h => h) (Or.inl ⟨by rfl, ?_⟩) (by assumption) ?_
        rotate_left
        · intro w hSw; (try dsimp only at hSw); go_simp; try with_reducible rfl
        simp only [Act.put, List.setIfInBounds_toArray, List.set_cons_zero, List.set_cons_succ, List.getElem_toArray, List.getElem_cons_zero]
        refine wpAnyH_take (i := 1) (v := ?_) rfl (by kernel_rfl) (by kernel_rfl) (by kernel_rfl) (fun _ _ _ h => h) (Or.inl ⟨by rfl, ?_⟩) (by assumption) ?_
        rotate_left
        · intro w hSw; (try dsimp only at hSw); go_simp; try with_reducible rfl
        simp only [Act.put, List.setIfInBounds_toArray, List.set_cons_zero, List.set_cons_succ, List.getElem_toArray, List.getElem_cons_zero, List.getElem_cons_succ]
        refine wpAnyH_take (i := 2) (v := ?_) rfl (by kernel_rfl) (by kernel_rfl) (by kernel_rfl) (fun _ _ _ h => h) (Or.inl ⟨by rfl, ?_⟩) (by assumption) ?_
        rotate_left
        · intro w hSw; (try dsimp only at hSw); go_simp; try with_reducible rfl
        simp only [Act.put, List.setIfInBounds_toArray, List.set_cons_zero, List.set_cons_succ, List.getElem_toArray, List.getElem_cons_zero, List.getElem_cons_succ]
        refine wpAnyH_take (i := 3) (v := ?_) rfl (by kernel_rfl) (by kernel_rfl) (by kernel_rfl) (fun _ _ _ h => h) (Or.inl ⟨by rfl, ?_⟩) (by assumption) ?_
        rotate_left
        · intro w hSw; (try dsimp only at hSw); go_simp; try with_reducible rfl
        simp only [Act.put, List.setIfInBounds_toArray, List.set_cons_zero, List.set_cons_succ, List.getElem_toArray, List.getElem_cons_zero, List.getElem_cons_succ]
        refine wpAnyH_take (i := 5) (v := ?_) rfl (by kernel_rfl) (by kernel_rfl) (by kernel_rfl) (fun _ _ _ h => h) (Or.inl ⟨by rfl, ?_⟩) (by assumption) ?_
        rotate_left
        · intro w hSw; (try dsimp only at hSw); go_simp; try with_reducible rfl
        simp only [Act.put, List.setIfInBounds_toArray, List.set_cons_zero, List.set_cons_succ, List.getElem_toArray, List.getElem_cons_zero, List.getElem_cons_succ]
        refine wpAnyH_take (i := 6) (v := ?_) rfl (by kernel_rfl) (by kernel_rfl) (by kernel_rfl) (fun _ _ _ h => h) (Or.inl ⟨by rfl, ?_⟩) (by assumption) ?_
        rotate_left
        · intro w hSw; (try dsimp only at hSw); go_simp; try with_reducible rfl
        simp only [Act.put, List.setIfInBounds_toArray, List.set_cons_zero, List.set_cons_succ, List.getElem_toArray, List.getElem_cons_zero, List.getElem_cons_succ]
        refine wpAnyH_take (i := 7) (v := ?_) rfl (by kernel_rfl) (by kernel_rfl) (by kernel_rfl) (fun _ _ _ h => h) (Or.inl ⟨by rfl, ?_⟩) (by assumption) ?_
        rotate_left
        · intro w hSw; (try dsimp only at hSw); go_simp; try with_reducible rfl
        simp only [Act.put, List.setIfInBounds_toArray, List.set_cons_zero, List.set_cons_succ, List.getElem_toArray, List.getElem_cons_zero, List.getElem_cons_succ]
        refine wpAnyH_take (i := 8) (v := ?_) rfl (by kernel_rfl) (by kernel_rfl) (by kernel_rfl) (fun _ _ _ h => h) (Or.inl ⟨by rfl, ?_⟩) (by assumption) ?_
        rotate_left
        · intro w hSw; (try dsimp only at hSw); go_simp; try with_reducible rfl
        simp only [Act.put, List.setIfInBounds_toArray, List.set_cons_zero, List.set_cons_succ, List.getElem_toArray, List.getElem_cons_zero, List.getElem_cons_succ]
        refine wpAnyH_ready (rs := [4]) (by kernel_rfl) (by simp) ?_
        refine AllReadyH.cons rfl (fun K hK => ?_) AllReadyH.nil
        go_simp
        refine hK.out _ _ ?_ (fun hHeld => ?_)
        · exact hn4B
        clear hK K
        try simp only [Act.put, List.setIfInBounds_toArray, List.set_cons_zero, List.set_cons_succ]
        refine wpAnyH_ready (rs := [9]) (by kernel_rfl) (by simp) ?_
        refine AllReadyH.cons rfl (fun K hK => ?_) AllReadyH.nil
        refine step_append_any _ rfl (.tmp 56) (.tmp 60) _ rfl w.heap.size 5 i0 _ 1 1 Try.underlying22 hi0 hz0 hz1 hz2 rfl (by omega) (.slice (some ⟨W.heap.size, 0, none⟩) 0 0) 0 [] rfl ?g1 (W.heap.size + 1) (some (ad.add 7)) L (cap - 7) (u8s ((xs.drop 7).take L)) rfl ?g2 (u8s_one _) (by simp only [maxLen]; omega) (by omega) ?g3 ?_
        case g1 => exact own_mono (World.ownsRow_made W.drew #[] 0 (Nat.le_refl _) (by simp [maxLen]) rfl) hbW.size
        case g2 => exact ((HD.out.alloc (Nat.le_refl _) _).more (by omega)).drew
        case g3 => have := hbW.size; simp; omega
        intro v6 w6 hown6 hg6 hat6
        have hB6 : Below w.heap.size w w6 := (hbW.drew.alloc hbW.size _).grown hg6 (by have := hbW.size; simp; omega) (by intro k hk; simp [Value.ownBlock] at hk; have := hbW.size; omega)
        have hn46 : w6.cell? ⟨ad.block, ad.off + 4, none⟩ = some (.int .u8 (k : Int)) := (hB6.cell (p := ⟨ad.block, ad.off + 4, none⟩) (cell_blk hn4)).trans hn4
        refine hK.out _ _ ?_ (fun hHeld => ?_)
        · exact hn46
        clear hK K
        refine wpAnyH_take (i := 10) (v := ?_) rfl (by kernel_rfl) (by kernel_rfl) (by kernel_rfl) (fun _ _ _ h => h) (Or.inl ⟨by rfl, ?_⟩) (by assumption) ?_
        rotate_left
        · intro w hSw; (try dsimp only at hSw); go_simp; try with_reducible rfl
        simp only [Act.put, List.setIfInBounds_toArray, List.set_cons_zero, List.set_cons_succ, List.getElem_toArray, List.getElem_cons_zero, List.getElem_cons_succ]
        refine wpAnyH_take (i := 11) (v := ?_) rfl (by kernel_rfl) (by kernel_rfl) (by kernel_rfl) (fun _ _ _ h => h) (Or.inl ⟨by rfl, ?_⟩) (by assumption) ?_
        rotate_left
        · intro w hSw; (try dsimp only at hSw); go_simp; try with_reducible rfl
        simp only [Act.put, List.setIfInBounds_toArray, List.set_cons_zero, List.set_cons_succ, List.getElem_toArray, List.getElem_cons_zero, List.getElem_cons_succ]
        refine wpAnyH_take (i := 12) (v := ?_) rfl (by kernel_rfl) (by kernel_rfl) (by kernel_rfl) (fun _ _ _ h => h) (Or.inl ⟨by rfl, ?_⟩) (by assumption) ?_
        rotate_left
        · intro w hSw; (try dsimp only at hSw); go_simp; try with_reducible rfl
        simp only [Act.put, List.setIfInBounds_toArray, List.set_cons_zero, List.set_cons_succ, List.getElem_toArray, List.getElem_cons_zero, List.getElem_cons_succ]
        refine wpAnyH_done (by kernel_rfl) ?_ _
        simp only [Nat.zero_add, List.nil_append] at hown6
        obtain ⟨A6, c6, rfl⟩ := own_form hown6
        go_wp2
        go_ret3
        exact OpenPost.yes (k := (k : Int)) HZ.out (congrArg Nat.cast HK.out) (by rw [HLL.out]; exact hown6) hB6
theorem openR_any (xs : List UInt8) (A : Option Addr) (n cap : Nat) (w : World) (hr : Reads w w.heap.size 1 A n (u8s xs)) (hc : n ≤ cap) (hc2 : cap ≤ 9223372036854775807) :
    Calls Try.prog 22 #[.slice A n cap] w (OpenPost xs w) := by
  by_cases hn : n = 512
  · subst hn
    obtain ⟨ad, rfl, _, _⟩ := hr.2 (by omega)
    by_cases hs : numL (xs.take 4) = crcS (xs.drop 4)
    · exact openR_rest xs ad cap w hr hc hc2 hs
    · exact openR_sum xs ad cap w hr hc hc2 hs
  · exact openR_short xs A n cap w hr.len8 hn
end Go.Proofs.Ytkhgjmbpodkdnaa

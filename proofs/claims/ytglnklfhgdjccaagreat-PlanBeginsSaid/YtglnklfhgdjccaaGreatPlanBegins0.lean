/- merestonelaw05.PlanBegins: the walk. -/
import Derived.Test.YtglnklfhgdjccaaGreatPlanCheck
import Derived.Test.YtglnklfhgdjccaaGreatSamePc
import Derived.Test.YtglnklfhgdjccaaGreatOwned
import Derived.Test.YtglnklfhgdjccaaGreatCheckR
namespace Go.Proofs.YtglnklfhgdjccaaGreat
open Go.RowKit
theorem beginP_no {xs : List Pt} {id : Int} {s : ByteArray} {e : Int} (h : beginE xs id s = e) (h0 : e ≠ 0) : beginP xs id s = ⟨[], []⟩ := by unfold beginP; rw [if_neg (by rw [h]; exact h0)]
theorem beginP_ok {xs : List Pt} {id : Int} {s : ByteArray} (h : beginE xs id s = 0) : beginP xs id s = ⟨rot (leastN xs xs.length) xs, [⟨id, rot (leastN xs xs.length) xs, s⟩]⟩ := by unfold beginP; rw [if_pos h]
theorem beginE_3 {xs : List Pt} {id : Int} {s : ByteArray} (h0 : checkI xs = 0) (h : (idB id && ownB s) = false) : beginE xs id s = 1 := by unfold beginE; rw [if_pos h0, if_neg (by rw [h]; decide)]
theorem beginE_ok {xs : List Pt} {id : Int} {s : ByteArray} (h0 : checkI xs = 0) (h : (idB id && ownB s) = true) : beginE xs id s = 0 := by unfold beginE; rw [if_pos h0, if_pos h]
theorem beginE_no {xs : List Pt} {id : Int} {s : ByteArray} (h0 : checkI xs ≠ 0) : beginE xs id s = checkI xs := by unfold beginE; rw [if_neg h0]
set_option maxRecDepth 100000 in
set_option maxHeartbeats 3200000 in
theorem planBegins_any (xs : List Pt) (A : Option Addr) (n cap : Nat) (id : Int) (s : ByteArray) (w : World) (hr : Reads w w.heap.size 2 A n (ptsV xs)) (hn : n ≤ 8796093022208) (hx : ∀ p ∈ xs, p.inI) (hi : inI id) (hs : s.size ≤ 9223372036854775807) :
    Calls Tryz.prog 4 #[.slice A n cap, .int .i64 id, .string s] w fun e w' => e = .returned (.bool true) ∧ Below w.heap.size w w' := by
  obtain ⟨i0, hi0, hz0, hz1, hz2⟩ := info_parts info_point
  have hl := hr.lenPt
  have hown0 : (w.alloc (.cells #[] 43)).ownsRow w.heap.size 43 2 (.slice (some ⟨w.heap.size, 0, none⟩) 0 0) 0 [] := World.ownsRow_made (base := w.heap.size) (e := 43) (size := 2) w #[] 0 (by omega) (by simp [maxLen]) rfl
  have hBa : Below w.heap.size w (w.alloc (.cells #[] 43)) := (Below.refl _ _).alloc (Nat.le_refl _) _
  have hrd := hr.on hBa
  have H0 := Lib.hid (And.intro hBa (And.intro hown0 hrd))
  have HL := Lib.hid hl
  have HX := Lib.hid (And.intro hx (And.intro hi hs))
  have HR := Lib.hid hr
  have kC := Lib.hid (fun V (hV : Below w.heap.size w V) => checkR_any xs A n cap V ((HR.out.below hV).more hV.size) (by omega) hx)
  have hL : checkI xs = 0 → n ≤ 128 := fun h => by
    obtain ⟨h1, h2, h3, -⟩ := checkI_zero h
    omega
  have kL := Lib.hid (fun V (hV : Below w.heap.size w V) (h0 : checkI xs = 0) => leastR_any xs A n cap V ((HR.out.below hV).more hV.size) (hL h0))
  have kI := fun V => idR_any id V
  have kO := fun V => ownerR_any s V hs
  clear hl hBa hown0 hrd hx hi hr hL
  go_enter Tryz.func4, Tryz.ntmps4
  go_upto_region 1 with fail
  go_wp2_with (at_builtin; refine wpList_append_any _ rfl (.tmp 12) (.tmp 13) _ rfl w.heap.size 43 i0 _ 2 16 Tryz.underlying23 hi0 hz0 hz1 hz2 rfl (by omega) (.slice (some ⟨w.heap.size, 0, none⟩) 0 0) 0 [] rfl H0.out.2.1 _ A n cap (ptsV xs) rfl H0.out.2.2 (ptsV_one _) (by simp only [maxLen]; omega) (by omega) (by rw [World.size_alloc]; omega) ?_
               intro v2 w2 hown2 hg2 hat2
               simp only [Nat.zero_add, List.nil_append] at hown2
               obtain ⟨Ao, co, rfl⟩ := own_form hown2)
  have hb2 : Below w.heap.size w w2 := H0.out.1.grown hg2 (by rw [World.size_alloc]; omega) (fun g e => by simp [Value.ownBlock] at e; omega)
  have kB := Lib.hid (begin_any xs Ao n co id s w2 (Reads.of_own hown2) (own_cap hown2).1 hn HX.out.1 HX.out.2.1 HX.out.2.2)
  have HB2 := Lib.hid hb2
  clear hb2 hg2 hat2 hown2 H0
  refine kB.out.mono ?_
  rintro e w3 ⟨A3, n3, c3, A4, n4, c4, rfl, hP, hb3⟩
  have hK := PlK.new w3 A3 n3 c3 A4 n4 c4
  have hba : Below w3.heap.size w3 (w3.alloc (.cells #[.slice A3 n3 c3, .slice A4 n4 c4] 26)) := (Below.refl _ _).alloc (Nat.le_refl _) _
  obtain ⟨wa, hwa⟩ : ∃ wa, wa = w3.alloc (.cells #[.slice A3 n3 c3, .slice A4 n4 c4] 26) := ⟨_, rfl⟩
  rw [← hwa] at hK hba
  have H3 := Lib.hid (And.intro (below_on (below_on HB2.out (Nat.le_refl _) hb3) (Nat.le_refl _) hba) (And.intro hK (hP.on hba)))
  clear hK hP hb3 HB2 kB hba
  obtain ⟨Bp, hBp⟩ : ∃ Bp, Bp = w3.heap.size := ⟨_, rfl⟩
  rw [← hBp] at H3
  generalize hbe : beginE xs id s = be at *
  have HBE := Lib.hid hbe
  clear hbe
  go_upto_region 2 with fail
  rw [← hwa, ← hBp]
  clear hwa hBp
  go_wp2_with fail
  refine (kC.out _ H3.out.1).mono ?_
  rintro e w4 ⟨rfl, hb4⟩
  have H4 := Lib.hid (And.intro (below_on H3.out.1 (Nat.le_refl _) hb4) (And.intro (H3.out.2.1.on hb4) (H3.out.2.2.on hb4)))
  clear hb4 H3 kC
  by_cases h0 : checkI xs = 0
  · have H0 := Lib.hid h0
    rw [h0]
    clear h0
    by_cases hok : (idB id && ownB s) = true
    · obtain rfl : be = 0 := HBE.out.symm.trans (beginE_ok H0.out hok)
      have hok1 : idB id = true := by rw [Bool.and_eq_true] at hok; exact hok.1
      have hok2 : ownB s = true := by rw [Bool.and_eq_true] at hok; exact hok.2
      rw [hok1] at kI
      rw [hok2] at kO
      clear hok hok1 hok2
      go_wp2_with (first
        | (go_at_call 22; (with_reducible refine (kI _).mono ?_); rintro e w' ⟨rfl, rfl⟩)
        | (go_at_call 23; (with_reducible refine (kO _).mono ?_); rintro e w' ⟨rfl, rfl⟩)
        | (go_at_call 15; (with_reducible refine (ans05_any _).mono ?_); rintro e w5 ⟨rfl, hb5⟩; have H5 := Lib.hid (And.intro (below_on H4.out.1 (Nat.le_refl _) hb5) (And.intro (H4.out.2.1.on hb5) (H4.out.2.2.on hb5))); clear hb5 H4))
      refine (kL.out w5 H5.out.1 H0.out).mono ?_
      rintro e w6 ⟨A6, c6, rfl, ho6, hb6⟩
      have hK6 := H5.out.2.1.on hb6
      obtain ⟨q1, q2, q3⟩ := hK6.facts
      have H6 := Lib.hid (And.intro (below_on H5.out.1 (Nat.le_refl _) hb6) (And.intro (H5.out.2.2.on hb6) ho6))
      clear hb6 H5 kL ho6 hK6
      have kS := Lib.hid (fun V (hV : Below w6.heap.size w6 V) (hN : Blk V w6.heap.size 40 #[.int .i64 id, .slice A6 n c6, .string s]) => by
        have hP := H6.out.2.1.on hV
        rw [beginP_ok HBE.out, HL.out] at hP
        have hR := Reads.of_own (own_below H6.out.2.2 hV)
        have hcp := own_cap H6.out.2.2
        have hf := hP.fits
        exact samePl_any ⟨rot (leastN xs n) xs, [⟨id, rot (leastN xs n) xs, s⟩]⟩ ⟨rot (leastN xs n) xs, [⟨id, rot (leastN xs n) xs, s⟩]⟩ A3 A4 A6 (some ⟨w6.heap.size, 0, none⟩) n3 c3 n4 c4 n c6 1 1 V hP ⟨hR, pIn_one (x := ⟨id, rot (leastN xs n) xs, s⟩) hN hR hcp.1 hcp.2 (by have := hV.size; have := Blk.lt hN; omega), hcp, ⟨Nat.le_refl _, by omega⟩, hf⟩)
      rw [plEq_self] at kS
      have hN6 := Blk.new w6 40 #[.int .i64 id, .slice A6 n c6, .string s]
      have hb7 : Below w6.heap.size w6 (w6.alloc (.cells #[.int .i64 id, .slice A6 n c6, .string s] 40)) := (Below.refl _ _).alloc (Nat.le_refl _) _
      have kS2 := Lib.hid (kS.out _ hb7 hN6)
      have HB7 := Lib.hid (below_on H6.out.1 (Nat.le_refl _) hb7)
      clear kS hN6 hb7
      go_wp2_with fail
      refine kS2.out.mono ?_
      rintro e w8 ⟨rfl, hb8⟩
      have HB8 := Lib.hid (below_on HB7.out (Nat.le_refl _) hb8)
      clear hb8 HB7 kS2
      go_wp2_with fail
      go_ret
      exact ⟨rfl, HB8.out⟩
    · have hno : (idB id && ownB s) = false := by simpa using hok
      obtain rfl : be = 1 := HBE.out.symm.trans (beginE_3 H0.out hno)
      have kF := Lib.hid (fun V (hV : Below w4.heap.size w4 V) => by
        have hP := H4.out.2.2.on hV
        rw [beginP_no HBE.out (by decide)] at hP
        exact samePl_any ⟨[], []⟩ ⟨[], []⟩ A3 A4 none none n3 c3 n4 c4 0 0 0 0 V hP (planAt_nil V))
      rw [plEq_self] at kF
      clear hok kL
      generalize idB id = b1 at *
      generalize ownB s = b2 at *
      have hcs : b1 = false ∨ (b1 = true ∧ b2 = false) := by
        rcases b1 with _ | _
        · exact .inl rfl
        · exact .inr ⟨rfl, by simpa using hno⟩
      clear hno
      rcases hcs with rfl | ⟨rfl, rfl⟩
      all_goals
        go_wp2_with (first
          | (go_at_call 22; (with_reducible refine (kI _).mono ?_); rintro e w' ⟨rfl, rfl⟩)
          | (go_at_call 23; (with_reducible refine (kO _).mono ?_); rintro e w' ⟨rfl, rfl⟩)
          | (go_at_call 15; (with_reducible refine (ans05_any _).mono ?_); rintro e w5 ⟨rfl, hb5⟩; have H5 := Lib.hid (And.intro (below_on H4.out.1 (Nat.le_refl _) hb5) (And.intro (H4.out.2.1.on hb5) hb5)); obtain ⟨q1, q2, q3⟩ := H5.out.2.1.facts; clear hb5))
        refine (kF.out w5 H5.out.2.2).mono ?_
        rintro e w6 ⟨rfl, hb6⟩
        have HB6 := Lib.hid (below_on H5.out.1 (Nat.le_refl _) hb6)
        clear hb6 H5 kF H4
        go_wp2_with fail
        go_ret
        exact ⟨rfl, HB6.out⟩
  · have hbe : be = checkI xs := HBE.out.symm.trans (beginE_no h0)
    rw [← hbe] at h0 ⊢
    have kF := Lib.hid (fun V (hV : Below w4.heap.size w4 V) => by
      have hP := H4.out.2.2.on hV
      rw [beginP_no HBE.out h0] at hP
      exact samePl_any ⟨[], []⟩ ⟨[], []⟩ A3 A4 none none n3 c3 n4 c4 0 0 0 0 V hP (planAt_nil V))
    rw [plEq_self] at kF
    have h0a : (be == 0) = false := by simpa using h0
    have h0b : (be != 0) = true := by simpa using h0
    clear kL hbe
    go_wp2_with (first
      | (go_at_call 15; (with_reducible refine (ans05_any _).mono ?_); rintro e w5 ⟨rfl, hb5⟩; have H5 := Lib.hid (And.intro (below_on H4.out.1 (Nat.le_refl _) hb5) (And.intro (H4.out.2.1.on hb5) hb5)); obtain ⟨q1, q2, q3⟩ := H5.out.2.1.facts; clear hb5))
    refine (kF.out w5 H5.out.2.2).mono ?_
    rintro e w6 ⟨rfl, hb6⟩
    have HB6 := Lib.hid (below_on H5.out.1 (Nat.le_refl _) hb6)
    clear hb6 H5 kF H4
    go_wp2_with fail
    go_ret
    exact ⟨rfl, HB6.out⟩
end Go.Proofs.YtglnklfhgdjccaaGreat

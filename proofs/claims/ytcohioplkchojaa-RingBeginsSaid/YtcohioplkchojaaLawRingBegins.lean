/- merestonelaw03.RingBegins: the walk. -/
import Derived.Test.YtcohioplkchojaaTurnLaw
import Derived.Test.YtcohioplkchojaaTurned
import Derived.Test.YtcohioplkchojaaLaw03
import Derived.Test.YtcohioplkchojaaCheckR
namespace Go.Proofs.Ytcohioplkchojaa
open Go.RowKit
theorem wp_named_ {P : Program} {c : Code} {Q : Exit → Act → World → Prop} {a : Act} {w : World} (h : ∀ W, W = w → c.wp P Q a W) : c.wp P Q a w := h w rfl
theorem ptsV_drop (xs : List Pt) (k : Nat) : (ptsV xs).drop (k * 2) = ptsV (xs.drop k) := by
  by_cases h : k ≤ xs.length
  · have e : ptsV xs = ptsV (xs.take k) ++ ptsV (xs.drop k) := by rw [← ptsV_append, List.take_append_drop]
    rw [e, List.drop_left' (by rw [ptsV_length, List.length_take]; omega)]
  · rw [List.drop_eq_nil_of_le (by omega : xs.length ≤ k), List.drop_eq_nil_of_le (by rw [ptsV_length]; omega)]
    rfl
theorem Reads.takePt {w : World} {B n k : Nat} {A : Option Addr} {xs : List Pt} (h : Reads w B 2 A n (ptsV xs)) (hk : k ≤ n) : Reads w B 2 A k (ptsV (xs.take k)) := by
  have hl := h.lenPt
  have e : ptsV xs = ptsV (xs.take k) ++ ptsV (xs.drop k) := by rw [← ptsV_append, List.take_append_drop]
  refine ⟨by rw [ptsV_length, List.length_take]; omega, fun h0 => ?_⟩
  obtain ⟨ad, h1, h2, h3⟩ := h.2 (by omega)
  refine ⟨ad, h1, h2, fun j u hu => h3 j u ?_⟩
  rw [e, List.getElem?_append_left (List.getElem?_eq_some_iff.1 hu).1]
  exact hu
theorem Reads.dropPt {w : World} {B n k cap : Nat} {A : Option Addr} {xs : List Pt} (h : Reads w B 2 A n (ptsV xs)) (hk : k ≤ n) (hc : n ≤ cap) : Reads w B 2 (if cap = k then A else A.map (·.add (k * 2))) (n - k) (ptsV (xs.drop k)) := by
  rw [← ptsV_drop]
  exact h.cut hk hc
abbrev HoldQ (W V : World) (b : Nat) (p : Pt) : Prop := V.cell? ⟨b, 0, none⟩ = some (.int .i64 p.x) ∧ V.cell? ⟨b, 1, none⟩ = some (.int .i64 p.y) ∧ Below W.heap.size W V
theorem heldQ {W V V' : World} {b : Nat} {p : Pt} (hh : b < W.heap.size) (hs : V.cell? ⟨b, 0, none⟩ = some (.int .i64 p.x) ∧ V.cell? ⟨b, 1, none⟩ = some (.int .i64 p.y) ∧ Below W.heap.size W V) (hb : Below V.heap.size V V') :
    V'.cell? ⟨b, 0, none⟩ = some (.int .i64 p.x) ∧ V'.cell? ⟨b, 1, none⟩ = some (.int .i64 p.y) ∧ Below W.heap.size W V' := by
  have := hs.2.2.size
  exact ⟨(hb.cell (p := ⟨b, 0, none⟩) (by simp only; omega)).trans hs.1, (hb.cell (p := ⟨b, 1, none⟩) (by simp only; omega)).trans hs.2.1, below_on hs.2.2 (Nat.le_refl _) hb⟩
abbrev FB (w : World) (p : Pt) (W : World) : Prop := Below w.heap.size w W ∧ Blk W (w.heap.size) 35 #[.int .i64 p.x, .int .i64 p.y]
theorem FB.on {w W W' : World} {p : Pt} (h : FB w p W) (hb : Below W.heap.size W W') : FB w p W' := ⟨below_on h.1 (Nat.le_refl _) hb, Blk.below h.2 hb (Blk.lt h.2)⟩
theorem FB.alloc {w W : World} {p : Pt} (h : FB w p W) (o : Obj) : FB w p (W.alloc o) := ⟨h.1.alloc h.1.size o, Blk.alloc h.2 o⟩
theorem FB.c0 {w W : World} {p : Pt} (h : FB w p W) : W.cell? ⟨w.heap.size, 0, none⟩ = some (.int .i64 p.x) ∧ W.cell? ⟨w.heap.size, 1, none⟩ = some (.int .i64 p.y) ∧ w.heap.size < W.heap.size := ⟨by rw [Blk.cell h.2 0]; rfl, by rw [Blk.cell h.2 1]; rfl, Blk.lt h.2⟩
theorem FB.new (w : World) (p : Pt) : FB w p (w.alloc (.cells #[.int .i64 p.x, .int .i64 p.y] 35)) := by
  refine ⟨((Below.refl _ _).alloc (Nat.le_refl _) _), ?_⟩
  · have := Blk.new w 35 #[.int .i64 p.x, .int .i64 p.y]
    exact this
abbrev FX (w : World) (p : Pt) (ys : List Pt) (n : Nat) (A : Option Addr) (W : World) : Prop := FB w p W ∧ Reads W W.heap.size 2 A n (ptsV ys)
theorem FX.on {w W W' : World} {p : Pt} {ys : List Pt} {n : Nat} {A : Option Addr} (h : FX w p ys n A W) (hb : Below W.heap.size W W') : FX w p ys n A W' := ⟨h.1.on hb, h.2.on hb⟩
abbrev FY (w : World) (p : Pt) (ys : List Pt) (n : Nat) (A : Option Addr) (z1 z2 : Int) (g : Nat) (W : World) : Prop := FX w p ys n A W ∧ Blk W g 26 #[.int .i64 z1, .int .u64 z2]
theorem FY.on {w W W' : World} {p : Pt} {ys : List Pt} {n : Nat} {A : Option Addr} {z1 z2 : Int} {g : Nat} (h : FY w p ys n A z1 z2 g W) (hb : Below W.heap.size W W') : FY w p ys n A z1 z2 g W' := ⟨FX.on h.1 hb, Blk.below h.2 hb (Blk.lt h.2)⟩
abbrev FZ (w : World) (p : Pt) (ys : List Pt) (n : Nat) (A : Option Addr) (z1 z2 : Int) (g g2 : Nat) (W : World) : Prop := FY w p ys n A z1 z2 g W ∧ Blk W g2 26 #[.int .i64 z1, .int .u64 z2]
theorem FZ.on {w W W' : World} {p : Pt} {ys : List Pt} {n : Nat} {A : Option Addr} {z1 z2 : Int} {g g2 : Nat} (h : FZ w p ys n A z1 z2 g g2 W) (hb : Below W.heap.size W W') : FZ w p ys n A z1 z2 g g2 W' := ⟨FY.on h.1 hb, Blk.below h.2 hb (Blk.lt h.2)⟩
abbrev FV (w : World) (p : Pt) (ys : List Pt) (n : Nat) (A : Option Addr) (z1 z2 m1 m2 : Int) (g g2 g3 : Nat) (W : World) : Prop := FZ w p ys n A z1 z2 g g2 W ∧ Blk W g3 26 #[.int .i64 m1, .int .u64 m2]
theorem FV.on {w W W' : World} {p : Pt} {ys : List Pt} {n : Nat} {A : Option Addr} {z1 z2 m1 m2 : Int} {g g2 g3 : Nat} (h : FV w p ys n A z1 z2 m1 m2 g g2 g3 W) (hb : Below W.heap.size W W') : FV w p ys n A z1 z2 m1 m2 g g2 g3 W' := ⟨FZ.on h.1 hb, Blk.below h.2 hb (Blk.lt h.2)⟩
set_option maxRecDepth 100000 in
set_option maxHeartbeats 3200000 in
theorem ringBegins_any (xs : List Pt) (x : Int) (p : Pt) (A : Option Addr) (n cap : Nat) (w : World) (hr : Reads w w.heap.size 2 A n (ptsV xs)) (hn : n ≤ 8796093022208) (hcap : n ≤ cap) (hcb : cap ≤ 9223372036854775807) (hx : ∀ p ∈ xs, p.inI) (hb0 : 0 ≤ x) (hb1 : x ≤ 255) (hp : p.inI) :
    Calls Try.prog 9 #[.slice A n cap, .int .u8 x, ptV p] w fun e w' => e = .returned (.bool true) ∧ Below w.heap.size w w' := by
  obtain ⟨i0, hi0, hz0, hz1, hz2⟩ := info_parts info_pt
  have hl : xs.length = n := hr.lenPt
  have hnI : n ≤ 9223372036854775807 := by omega
  by_cases hgo : 0 < n ∧ n ≤ 128
  case neg =>
    have H0 := Lib.hid (FB.new w p)
    clear hr hx hp hi0 hz0 hz1 hz2
    have hgo' : n = 0 ∨ 128 < n := by omega
    unfold ptV
    rcases hgo' with h0 | h0
    · subst h0
      go_enter Try.func9, Try.ntmps9
      go_wp2_with fail
      generalize (w.alloc (.cells #[.int .i64 p.x, .int .i64 p.y] 35)) = W0 at *
      refine (ans03_any _).mono ?_
      rintro e w1 ⟨rfl, hb1⟩
      have H1 := Lib.hid (H0.out.on hb1)
      clear hb1 H0
      go_wp2_with fail
      refine (ans03_any _).mono ?_
      rintro e w2 ⟨rfl, hb2⟩
      have H2 := Lib.hid (H1.out.on hb2)
      clear hb2 H1
      go_wp2_with fail
      go_ret
      exact ⟨rfl, H2.out.1⟩
    · have h1 : (128 : Int) < (n : Int) := by omega
      have h2 : ¬ ((n : Int) = 0) := by omega
      have h3 : ((n : Int) == 0) = false := by simpa using h2
      go_enter Try.func9, Try.ntmps9
      go_wp2_with fail
      generalize (w.alloc (.cells #[.int .i64 p.x, .int .i64 p.y] 35)) = W0 at *
      refine (ans03_any _).mono ?_
      rintro e w1 ⟨rfl, hb1⟩
      have H1 := Lib.hid (H0.out.on hb1)
      clear hb1 H0
      go_wp2_with fail
      refine (ans03_any _).mono ?_
      rintro e w2 ⟨rfl, hb2⟩
      have H2 := Lib.hid (H1.out.on hb2)
      clear hb2 H1
      go_wp2_with fail
      go_ret
      exact ⟨rfl, H2.out.1⟩
  case pos =>
  obtain ⟨hgo1, hgo2⟩ := hgo
  have hxn : x.tmod (n : Int) = ((x.toNat % n : Nat) : Int) := by
    obtain ⟨m, rfl⟩ : ∃ m : Nat, x = (m : Int) := ⟨x.toNat, by omega⟩
    rw [Int.toNat_natCast]
    rfl
  have hkn : x.toNat % n < n := Nat.mod_lt _ hgo1
  generalize x.toNat % n = k at *
  obtain ⟨ys, hys⟩ : ∃ ys, ys = rot k xs := ⟨_, rfl⟩
  have hkl : k < xs.length := by omega
  have hyl : ys.length = n := by rw [hys, rot_len (by omega)]; exact hl
  have hyI : ∀ q ∈ ys, q.inI := fun q hq => by
    rw [hys] at hq
    rcases List.mem_append.1 hq with h | h
    · exact hx q (List.mem_of_mem_drop h)
    · exact hx q (List.mem_of_mem_take h)
  have hzI : ∀ q ∈ xs.reverse, q.inI := fun q hq => hx q (List.mem_reverse.1 hq)
  have kO : ∀ (l : List Pt) V B m c, m ≤ 128 → Reads V V.heap.size 2 B m (ptsV l) → Calls Try.prog 16 #[.slice B m c] V fun e V' => ∃ A' c, e = .returned (.slice A' m c) ∧ Reads V' V'.heap.size 2 A' m (ptsV l) ∧ Below V.heap.size V V' := fun l V B m c hm h =>
    (own03_any l B m c V h (by omega)).mono fun e V' ⟨A', c, h1, h2, h3⟩ => ⟨A', c, h1, Reads.of_own h2, h3⟩
  have kX : ∀ V, Below w.heap.size w V → Reads V V.heap.size 2 A n (ptsV xs) := fun V hV => (hr.below hV).more hV.size
  have kA1 : ∀ V A' c, Reads V V.heap.size 2 A' n (ptsV xs) → Calls Try.prog 15 #[.slice A' n c] V fun e V' => e = .returned (.tuple #[i128 (areaV xs), .int .i64 (areaE xs)]) ∧ Below V.heap.size V V' := fun V A' c h => by have := area_any xs A' n c V h hnI hx; exact this
  have kA2 : ∀ V A' c, Reads V V.heap.size 2 A' n (ptsV ys) → Calls Try.prog 15 #[.slice A' n c] V fun e V' => e = .returned (.tuple #[i128 (areaV xs), .int .i64 (areaE xs)]) ∧ Below V.heap.size V V' := fun V A' c h => by have := area_any ys A' n c V h hnI hyI; rw [hys, (area_rot hkl).1, (area_rot hkl).2] at this; exact this
  have kA3 : ∀ V A' c, Reads V V.heap.size 2 A' n (ptsV xs.reverse) → Calls Try.prog 15 #[.slice A' n c] V fun e V' => e = .returned (.tuple #[i128 (- areaV xs), .int .i64 (areaE xs)]) ∧ Below V.heap.size V V' := fun V A' c h => by have := area_any xs.reverse A' n c V h hnI hzI; rw [areaE_rev, areaV_rev] at this; exact this
  have kC1 : ∀ V A' c, Reads V V.heap.size 2 A' n (ptsV xs) → Calls Try.prog 19 #[.slice A' n c] V fun e V' => e = .returned (.int .i64 (checkI xs)) ∧ Below V.heap.size V V' := fun V A' c h => by have := check_any xs A' n c V h hnI hx; exact this
  have kC2 : ∀ V A' c, Reads V V.heap.size 2 A' n (ptsV ys) → Calls Try.prog 19 #[.slice A' n c] V fun e V' => e = .returned (.int .i64 (checkI xs)) ∧ Below V.heap.size V V' := fun V A' c h => by have := check_any ys A' n c V h hnI hyI; rw [hys, check_rot hkl] at this; exact this
  have kC3 : ∀ V A' c, checkI xs = 0 → Reads V V.heap.size 2 A' n (ptsV xs.reverse) → Calls Try.prog 19 #[.slice A' n c] V fun e V' => e = .returned (.int .i64 4) ∧ Below V.heap.size V V' := fun V A' c hc h => by have := check_any xs.reverse A' n c V h hnI hzI; rw [check_rev hc] at this; exact this
  have kS1 : ∀ V A' c, Reads V V.heap.size 2 A' n (ptsV xs) → Calls Try.prog 21 #[.slice A' n c, .agg #[.int .i64 p.x, .int .i64 p.y]] V fun e V' => e = .returned (.tuple #[.int .i64 (sideV xs p), .int .i64 (sideE xs p)]) ∧ Below V.heap.size V V' := fun V A' c h => by have := sideW_any xs p A' n c V h hnI hx hp; exact this
  have kS2 : ∀ V A' c, Reads V V.heap.size 2 A' n (ptsV ys) → Calls Try.prog 21 #[.slice A' n c, .agg #[.int .i64 p.x, .int .i64 p.y]] V fun e V' => e = .returned (.tuple #[.int .i64 (sideV xs p), .int .i64 (sideE xs p)]) ∧ Below V.heap.size V V' := fun V A' c h => by have := sideW_any ys p A' n c V h hnI hyI hp; rw [hys, (sideW_rot p hkl).1, (sideW_rot p hkl).2] at this; exact this
  have kT : ∀ V A' c, Reads V V.heap.size 2 A' n (ptsV xs) → Calls Try.prog 35 #[.slice A' n c] V fun e V' => ∃ A'' c, e = .returned (.slice A'' n c) ∧ Reads V' V'.heap.size 2 A'' n (ptsV xs.reverse) ∧ Below V.heap.size V V' := fun V A' c h => turned_any xs A' n c V h hn
  have kW : ∀ V, areaE xs = 0 → Calls Try.prog 36 #[i128 (areaV xs), i128 (- areaV xs)] V fun e V' => e = .returned (.tuple #[.agg #[.int .i64 0, .int .u64 0], .int .i64 0]) ∧ Below V.heap.size V V' := fun V h0 => by
    obtain ⟨h1, h2⟩ := areaE_zero h0
    have hs : small (areaV xs) := by
      have := areaS_bd h2 xs.length
      rw [areaS_all] at this
      rw [areaV_ok h0]
      unfold small
      omega
    have := add_any (areaV xs) (- areaV xs) V hs (by unfold small at *; omega)
    rw [Int.add_right_neg, i128_zero] at this
    exact this
  unfold i128 at kA1 kA2 kA3 kW
  generalize areaV xs = z at *
  generalize areaE xs = ae at *
  generalize checkI xs = ce at *
  generalize sideV xs p = sv at *
  generalize sideE xs p = se at *
  generalize (- z) / 18446744073709551616 = m1 at *
  generalize (- z) % 18446744073709551616 = m2 at *
  generalize z / 18446744073709551616 = z1 at *
  generalize z % 18446744073709551616 = z2 at *
  have HA := Lib.hid (And.intro kA1 (And.intro kA2 kA3))
  have HC := Lib.hid (And.intro kC1 (And.intro kC2 kC3))
  have HS := Lib.hid (And.intro kS1 kS2)
  have HT := Lib.hid (And.intro kT kW)
  have HO := Lib.hid (And.intro kO kX)
  have HX := Lib.hid (And.intro hys (And.intro hl hr))
  clear kA1 kA2 kA3 kC1 kC2 kC3 kS1 kS2 kT kW kO kX hys hl hr hyl hyI hzI hx hp hkl
  have H0 := Lib.hid (FB.new w p)
  have hg1 : ((n : Int) == 0) = false := by
    have : ¬ ((n : Int) = 0) := by omega
    simpa using this
  have hg2 : ¬ (128 : Int) < (n : Int) := by omega
  have hg3 : ¬ n = 0 := by omega
  have hg4 : ¬ (n : Int) = 0 := by omega
  have hwx : IntKind.i64.wrap x = x := IntWalk.i64_in _ (by omega)
  have hwk : IntKind.i64.wrap (k : Int) = (k : Int) := IntWalk.i64_in _ (by omega)
  unfold ptV
  go_enter Try.func9, Try.ntmps9
  go_wp2_with fail
  generalize (w.alloc (.cells #[.int .i64 p.x, .int .i64 p.y] 35)) = W0 at *
  refine (ans03_any _).mono ?_
  rintro e w1 ⟨rfl, hb1⟩
  have H1 := Lib.hid (H0.out.on hb1)
  clear hb1 H0
  go_wp2_with fail
  refine wp_named_ fun Wr hWr => ?_
  have HR := Lib.hid (show FB w p Wr by rw [hWr]; exact H1.out)
  clear hWr H1
  have hBd := HR.out.1.drew
  have hrA : ∀ V, Below Wr.drew.heap.size Wr.drew V → Reads V Wr.drew.heap.size 2 A k (ptsV (xs.take k)) := fun V hV => (Reads.takePt (HO.out.2 _ hBd) (by omega)).below hV
  have hrB := Reads.dropPt (HO.out.2 _ hBd) (k := k) (by omega) hcap
  rw [if_neg (by omega)] at hrB
  have kOB := own03_any (xs.drop k) _ (n - k) (cap - k) Wr.drew hrB (by omega)
  have hP0 : Below Wr.heap.size Wr Wr.drew := (Below.refl _ _).drew
  have hck : ¬ cap = k := by omega
  have hle1 : (k : Int) ≤ (n : Int) := by omega
  have hle2 : (n : Int) ≤ (cap : Int) := by omega
  have hle3 : (k : Int) ≤ (cap : Int) := by omega
  go_region_held3 (fun V => Below Wr.heap.size Wr V)
    (first | with_reducible exact hP0 | with_reducible exact hB3 | with_reducible exact below_on hP0 (Nat.le_refl _) hb')
    (first
      | (go_simp; go_at_call 16; (with_reducible refine kOB.mono ?_); rintro e w' ⟨A1, c1, rfl, ho1, hb'⟩; try dsimp only)
      | ((refine step_append_any _ (by rfl) (.tmp 42) (.tmp 45) _ (by rfl) Wr.drew.heap.size 35 i0 _ 2 16 Try.underlying23 hi0 hz0 hz1 hz2 (by rfl) (by omega) (.slice A1 (n - k) c1) (n - k) _ (by rfl) ho1 Wr.drew.heap.size A k cap (ptsV (xs.take k)) (by rfl) (hrA _ hb') (ptsV_one _) (by simp only [maxLen]; omega) (by omega) hb'.size ?_); intro v2 wa hown2 hg2 hat2; have hB2 : Below Wr.drew.heap.size Wr.drew wa := hb'.grown hg2 hb'.size (fun g hg => (ho1.lt g hg).1); rw [← ptsV_append, show n - k + k = n by omega] at hown2; obtain ⟨A2, c2, rfl⟩ := own_form hown2; have hB3 : Below Wr.heap.size Wr wa := below_on hP0 (Nat.le_refl _) hB2; try dsimp only))
  have hY : Reads wa wa.heap.size 2 A2 n (ptsV ys) := by
    rw [HX.out.1]
    exact Reads.of_own hown2
  have H2 := Lib.hid (show FX w p ys n A2 wa from ⟨HR.out.on hB3, hY⟩)
  clear hY hB3 hB2 hown2 hg2 hat2 ho1 hb' HR hBd hrA hrB kOB hP0 hck hle1 hle2 hle3
  go_wp2_with fail
  with_reducible refine (HO.out.1 _ _ _ _ _ hgo2 (HO.out.2 _ H2.out.1.1)).mono ?_
  rintro e w13 ⟨A3, c3, rfl, hr3, hb3⟩
  have H3 := Lib.hid (And.intro hr3 (FX.on H2.out hb3))
  clear hr3 hb3 H2
  go_wp2_with fail
  with_reducible refine (HA.out.1 _ _ _ H3.out.1).mono ?_
  rintro e w14 ⟨rfl, hb4⟩
  have H4 := Lib.hid (FX.on H3.out.2 hb4)
  clear hb4 H3
  obtain ⟨g1, hg1⟩ : ∃ g1, g1 = w14.heap.size := ⟨_, rfl⟩
  have hX : FY w p ys n A2 z1 z2 g1 (w14.alloc (.cells #[.int .i64 z1, .int .u64 z2] 26)) := by
    rw [hg1]
    exact ⟨FX.on H4.out ((Below.refl _ _).alloc (Nat.le_refl _) _), Blk.new w14 _ _⟩
  have H5 := Lib.hid hX
  clear hX H4
  go_wp2_with fail
  rw [← hg1]
  generalize w14.alloc (.cells #[.int .i64 z1, .int .u64 z2] 26) = w15 at *
  clear hg1
  with_reducible refine (HO.out.1 _ _ _ _ _ hgo2 H5.out.1.2).mono ?_
  rintro e w16 ⟨A6, c6, rfl, hr6, hb6⟩
  have H6 := Lib.hid (And.intro hr6 (FY.on H5.out hb6))
  clear hr6 hb6 H5
  go_wp2_with fail
  with_reducible refine (HA.out.2.1 _ _ _ H6.out.1).mono ?_
  rintro e w17 ⟨rfl, hb7⟩
  have H7 := Lib.hid (FY.on H6.out.2 hb7)
  clear hb7 H6
  obtain ⟨g2, hg2⟩ : ∃ g2, g2 = w17.heap.size := ⟨_, rfl⟩
  have hX : FZ w p ys n A2 z1 z2 g1 g2 (w17.alloc (.cells #[.int .i64 z1, .int .u64 z2] 26)) := by
    rw [hg2]
    exact ⟨FY.on H7.out ((Below.refl _ _).alloc (Nat.le_refl _) _), Blk.new w17 _ _⟩
  have H8 := Lib.hid hX
  clear hX H7
  go_wp2_with fail
  rw [← hg2]
  generalize w17.alloc (.cells #[.int .i64 z1, .int .u64 z2] 26) = w18 at *
  clear hg2
  with_reducible refine (HO.out.1 _ _ _ _ _ hgo2 (HO.out.2 _ H8.out.1.1.1.1)).mono ?_
  rintro e w19 ⟨A9, c9, rfl, hr9, hb9⟩
  have H9 := Lib.hid (And.intro hr9 (FZ.on H8.out hb9))
  clear hr9 hb9 H8
  go_wp2_with fail
  with_reducible refine (HT.out.1 _ _ _ H9.out.1).mono ?_
  rintro e w20 ⟨A10, c10, rfl, hr10, hb10⟩
  have H10 := Lib.hid (And.intro hr10 (FZ.on H9.out.2 hb10))
  clear hr10 hb10 H9
  go_wp2_with fail
  with_reducible refine (HA.out.2.2 _ _ _ H10.out.1).mono ?_
  rintro e w21 ⟨rfl, hb11⟩
  have H11 := Lib.hid (FZ.on H10.out.2 hb11)
  clear hb11 H10
  obtain ⟨g3, hg3⟩ : ∃ g3, g3 = w21.heap.size := ⟨_, rfl⟩
  have hX : FV w p ys n A2 z1 z2 m1 m2 g1 g2 g3 (w21.alloc (.cells #[.int .i64 m1, .int .u64 m2] 26)) := by
    rw [hg3]
    exact ⟨FZ.on H11.out ((Below.refl _ _).alloc (Nat.le_refl _) _), Blk.new w21 _ _⟩
  have H12 := Lib.hid hX
  clear hX H11
  go_wp2_with fail
  rw [← hg3]
  generalize w21.alloc (.cells #[.int .i64 m1, .int .u64 m2] 26) = w22 at *
  clear hg3
  refine wp_named_ fun Ws hWs => ?_
  have HR := Lib.hid (show FV w p ys n A2 z1 z2 m1 m2 g1 g2 g3 Ws by rw [hWs]; exact H12.out)
  clear hWs H12
  have hRd : Reads Ws.drew Ws.drew.heap.size 2 A n (ptsV xs) := HO.out.2 _ HR.out.1.1.1.1.1.drew
  have hlt : w.heap.size < Ws.heap.size := HR.out.1.1.1.1.c0.2.2
  have hP0 : HoldQ Ws Ws.drew w.heap.size p := ⟨HR.out.1.1.1.1.c0.1, HR.out.1.1.1.1.c0.2.1, (Below.refl _ _).drew⟩
  go_region_held3 (fun V => V.cell? ⟨w.heap.size, 0, none⟩ = some (.int .i64 p.x) ∧ V.cell? ⟨w.heap.size, 1, none⟩ = some (.int .i64 p.y) ∧ Below Ws.heap.size Ws V)
    (first | with_reducible exact hP0 | with_reducible exact heldQ hlt (by assumption) (by assumption))
    (first
      | (go_simp; go_at_call 16; (with_reducible refine (HO.out.1 _ _ _ _ _ hgo2 hRd).mono ?_); rintro e w' ⟨A1, c1, rfl, hr1, hb'⟩; try dsimp only)
      | (go_simp; go_at_call 21; (with_reducible refine (HS.out.1 _ _ _ (by assumption)).mono ?_); rintro e w' ⟨rfl, hb'⟩; try dsimp only))
  clear hP0 hRd
  obtain ⟨-, -, hbV⟩ := (by assumption : HoldQ Ws _ w.heap.size p)
  have H13 := Lib.hid (FV.on HR.out hbV)
  clear hbV HR hlt
  go_wp2_with fail
  refine wp_named_ fun Wt hWt => ?_
  have HR := Lib.hid (show FV w p ys n A2 z1 z2 m1 m2 g1 g2 g3 Wt by rw [hWt]; exact H13.out)
  clear hWt H13
  have hRd : Reads Wt.drew Wt.drew.heap.size 2 A2 n (ptsV ys) := HR.out.1.1.1.2
  have hlt : w.heap.size < Wt.heap.size := HR.out.1.1.1.1.c0.2.2
  have hP0 : HoldQ Wt Wt.drew w.heap.size p := ⟨HR.out.1.1.1.1.c0.1, HR.out.1.1.1.1.c0.2.1, (Below.refl _ _).drew⟩
  go_region_held3 (fun V => V.cell? ⟨w.heap.size, 0, none⟩ = some (.int .i64 p.x) ∧ V.cell? ⟨w.heap.size, 1, none⟩ = some (.int .i64 p.y) ∧ Below Wt.heap.size Wt V)
    (first | with_reducible exact hP0 | with_reducible exact heldQ hlt (by assumption) (by assumption))
    (first
      | (go_simp; go_at_call 16; (with_reducible refine (HO.out.1 _ _ _ _ _ hgo2 hRd).mono ?_); rintro e w' ⟨A1, c1, rfl, hr1, hb'⟩; try dsimp only)
      | (go_simp; go_at_call 21; (with_reducible refine (HS.out.2 _ _ _ (by assumption)).mono ?_); rintro e w' ⟨rfl, hb'⟩; try dsimp only))
  clear hP0 hRd
  obtain ⟨-, -, hbV⟩ := (by assumption : HoldQ Wt _ w.heap.size p)
  have H14 := Lib.hid (FV.on HR.out hbV)
  clear hbV HR hlt
  obtain ⟨x1, x2, -, -⟩ := blk_two H14.out.1.1.2
  obtain ⟨y1, y2, -, -⟩ := blk_two H14.out.1.2
  go_wp2_with fail
  with_reducible refine (HO.out.1 _ _ _ _ _ hgo2 (HO.out.2 _ H14.out.1.1.1.1.1)).mono ?_
  rintro e w25 ⟨A15, c15, rfl, hr15, hb15⟩
  have H15 := Lib.hid (And.intro hr15 (FV.on H14.out hb15))
  clear hr15 hb15 H14 x1 x2 y1 y2
  go_wp2_with fail
  with_reducible refine (HC.out.1 _ _ _ H15.out.1).mono ?_
  rintro e w26 ⟨rfl, hb16⟩
  have H16 := Lib.hid (FV.on H15.out.2 hb16)
  clear hb16 H15
  go_wp2_with fail
  with_reducible refine (HO.out.1 _ _ _ _ _ hgo2 H16.out.1.1.1.2).mono ?_
  rintro e w27 ⟨A17, c17, rfl, hr17, hb17⟩
  have H17 := Lib.hid (And.intro hr17 (FV.on H16.out hb17))
  clear hr17 hb17 H16
  go_wp2_with fail
  with_reducible refine (HC.out.2.1 _ _ _ H17.out.1).mono ?_
  rintro e w28 ⟨rfl, hb18⟩
  have H18 := Lib.hid (FV.on H17.out.2 hb18)
  clear hb18 H17
  by_cases hae : ae = 0
  case neg =>
    have hne : (ae != 0) = true := by simpa using hae
    have hne2 : ¬ ae = 0 := hae
    have HB := Lib.hid H18.out.1.1.1.1.1
    clear H18
    go_wp2_with fail
    go_ret
    exact ⟨rfl, HB.out⟩
  case pos =>
  subst hae
  obtain ⟨x1, x2, -, -⟩ := blk_two H18.out.1.1.2
  obtain ⟨y1, y2, -, -⟩ := blk_two H18.out.2
  go_wp2_with fail
  with_reducible refine (HT.out.2 _ (by trivial)).mono ?_
  rintro e w29 ⟨rfl, hb19⟩
  have H19 := Lib.hid (FX.on H18.out.1.1.1 hb19)
  clear hb19 H18 x1 x2 y1 y2
  obtain ⟨g4, hg4⟩ : ∃ g4, g4 = w29.heap.size := ⟨_, rfl⟩
  have hX : FY w p ys n A2 0 0 g4 (w29.alloc (.cells #[.int .i64 0, .int .u64 0] 26)) := by
    rw [hg4]
    exact ⟨FX.on H19.out ((Below.refl _ _).alloc (Nat.le_refl _) _), Blk.new w29 _ _⟩
  have H20 := Lib.hid hX
  clear hX H19
  obtain ⟨x1, x2, -, -⟩ := blk_two H20.out.2
  rw [hg4] at x1 x2
  go_wp2_with fail
  rw [← hg4]
  generalize w29.alloc (.cells #[.int .i64 0, .int .u64 0] 26) = w30 at *
  clear hg4
  with_reducible refine (HO.out.1 _ _ _ _ _ hgo2 (HO.out.2 _ H20.out.1.1.1)).mono ?_
  rintro e w31 ⟨A21, c21, rfl, hr21, hb21⟩
  have H21 := Lib.hid (And.intro hr21 (FY.on H20.out hb21))
  clear hr21 hb21 H20 x1 x2
  go_wp2_with fail
  with_reducible refine (HC.out.1 _ _ _ H21.out.1).mono ?_
  rintro e w32 ⟨rfl, hb22⟩
  have H22 := Lib.hid (FY.on H21.out.2 hb22)
  clear hb22 H21
  by_cases hce : ce = 0
  case neg =>
    have hne : (ce != 0) = true := by simpa using hce
    have HB := Lib.hid H22.out.1.1.1
    clear H22
    go_wp2_with fail
    go_ret
    exact ⟨by simp, HB.out⟩
  case pos =>
  subst hce
  go_wp2_with fail
  with_reducible refine (HO.out.1 _ _ _ _ _ hgo2 (HO.out.2 _ H22.out.1.1.1)).mono ?_
  rintro e w33 ⟨A23, c23, rfl, hr23, hb23⟩
  have H23 := Lib.hid (And.intro hr23 (FY.on H22.out hb23))
  clear hr23 hb23 H22
  go_wp2_with fail
  with_reducible refine (HT.out.1 _ _ _ H23.out.1).mono ?_
  rintro e w34 ⟨A24, c24, rfl, hr24, hb24⟩
  have H24 := Lib.hid (And.intro hr24 (FY.on H23.out.2 hb24))
  clear hr24 hb24 H23
  go_wp2_with fail
  with_reducible refine (HC.out.2.2 _ _ _ (by trivial) H24.out.1).mono ?_
  rintro e w35 ⟨rfl, hb25⟩
  have H25 := Lib.hid (FY.on H24.out.2 hb25)
  clear hb25 H24
  go_wp2_with fail
  go_ret
  exact ⟨by simp, H25.out.1.1.1⟩
end Go.Proofs.Ytcohioplkchojaa

/- merestonelaw03.RingShifts: the walk. -/
import Derived.Test.YtcohioplkchojaaShiftLaw
import Derived.Test.YtcohioplkchojaaLaw03
import Derived.Test.YtcohioplkchojaaCheckR
namespace Go.Proofs.Ytcohioplkchojaa
open Go.RowKit
theorem wp_named_ {P : Program} {c : Code} {Q : Exit → Act → World → Prop} {a : Act} {w : World} (h : ∀ W, W = w → c.wp P Q a W) : c.wp P Q a w := h w rfl
theorem move_any (q d : Pt) (g1 g2 : Nat) (w : World) (hq : good q = true) (hd : (-32768 ≤ d.x ∧ d.x ≤ 32767) ∧ -32768 ≤ d.y ∧ d.y ≤ 32767) (h1 : w.cell? ⟨g1, 0, none⟩ = some (.int .i16 d.x)) (h2 : w.cell? ⟨g2, 0, none⟩ = some (.int .i16 d.y)) (l1 : g1 < w.heap.size) (l2 : g2 < w.heap.size) :
    Calls Try.prog 25 #[.agg #[.int .i64 q.x, .int .i64 q.y], .pointer (some ⟨g1, 0, none⟩), .pointer (some ⟨g2, 0, none⟩)] w fun e w' => e = .returned (.agg #[.int .i64 (mv d q).x, .int .i64 (mv d q).y]) ∧ Below w.heap.size w w' := by
  have hg := (good_iff _).1 hq
  obtain ⟨⟨d1, d2⟩, d3, d4⟩ := hd
  have w1 : IntKind.i64.wrap d.x = d.x := IntWalk.i64_in _ (by omega)
  have w2 : IntKind.i64.wrap d.y = d.y := IntWalk.i64_in _ (by omega)
  have w3 : IntKind.i64.wrap (q.x + d.x) = q.x + d.x := IntWalk.i64_in _ (by omega)
  have w4 : IntKind.i64.wrap (q.y + d.y) = q.y + d.y := IntWalk.i64_in _ (by omega)
  have hb : ∀ o1 o2, Below w.heap.size w ((w.alloc o1).alloc o2) := fun o1 o2 => ((Below.refl _ _).alloc (Nat.le_refl _) o1).alloc (by simp) o2
  clear hg hq d1 d2 d3 d4
  unfold mv
  go_enter Try.func25, Try.ntmps25
  go_wp2_with fail
  exact bodyPost_ret (v := .agg #[.int .i64 (q.x + d.x), .int .i64 (q.y + d.y)]) (by simp [results, Try.results25, go_sem]) rfl ⟨rfl, hb _ _⟩
theorem goodOne_any (q : Pt) (V : World) (hq : q.inI) (k : Nat) (hk : k = V.heap.size) : Calls Try.prog 22 #[.slice (some ⟨k, 0, none⟩) 1 1] (V.alloc (.cells #[.int .i64 q.x, .int .i64 q.y] 35)) fun e w' => e = .returned (.bool (good q)) ∧ Below (V.alloc (.cells #[.int .i64 q.x, .int .i64 q.y] 35)).heap.size (V.alloc (.cells #[.int .i64 q.x, .int .i64 q.y] 35)) w' := by
  have := goodR_any [q] _ 1 1 _ (reads_onePt V q k hk) (by omega) (fun q' hq' => by simp at hq'; subst hq'; exact hq)
  rwa [show goodL [q] = good q by simp [goodL]] at this
theorem ptAt_inI {xs : List Pt} (h : ∀ p ∈ xs, p.inI) {k : Nat} (hk : k < xs.length) : (ptAt xs k).inI := by
  rw [ptAt_lt hk]
  exact h _ (List.getElem_mem _)
theorem good_inI {p : Pt} (h : good p = true) : p.inI := by
  have := (good_iff p).1 h
  unfold Pt.inI
  omega
theorem good_mvI {p d : Pt} (h : good p = true) (hd : (-32768 ≤ d.x ∧ d.x ≤ 32767) ∧ -32768 ≤ d.y ∧ d.y ≤ 32767) : (mv d p).inI := by
  have := (good_iff p).1 h
  unfold Pt.inI mv
  simp only
  omega
abbrev HoldD (W V : World) (b : Nat) (d p : Pt) : Prop := V.cell? ⟨b, 0, none⟩ = some (.int .i16 d.x) ∧ V.cell? ⟨b + 1, 0, none⟩ = some (.int .i16 d.y) ∧ V.cell? ⟨b + 1 + 1, 0, none⟩ = some (.int .i64 p.x) ∧ V.cell? ⟨b + 1 + 1, 1, none⟩ = some (.int .i64 p.y) ∧ Below W.heap.size W V
theorem heldD {W V V' : World} {b : Nat} {d p : Pt} (hh : b + 1 + 1 < W.heap.size) (hs : V.cell? ⟨b, 0, none⟩ = some (.int .i16 d.x) ∧ V.cell? ⟨b + 1, 0, none⟩ = some (.int .i16 d.y) ∧ V.cell? ⟨b + 1 + 1, 0, none⟩ = some (.int .i64 p.x) ∧ V.cell? ⟨b + 1 + 1, 1, none⟩ = some (.int .i64 p.y) ∧ Below W.heap.size W V) (hb : Below V.heap.size V V') :
    V'.cell? ⟨b, 0, none⟩ = some (.int .i16 d.x) ∧ V'.cell? ⟨b + 1, 0, none⟩ = some (.int .i16 d.y) ∧ V'.cell? ⟨b + 1 + 1, 0, none⟩ = some (.int .i64 p.x) ∧ V'.cell? ⟨b + 1 + 1, 1, none⟩ = some (.int .i64 p.y) ∧ Below W.heap.size W V' := by
  have := hs.2.2.2.2.size
  exact ⟨(hb.cell (p := ⟨b, 0, none⟩) (by simp only; omega)).trans hs.1, (hb.cell (p := ⟨b + 1, 0, none⟩) (by simp only; omega)).trans hs.2.1, (hb.cell (p := ⟨b + 1 + 1, 0, none⟩) (by simp only; omega)).trans hs.2.2.1, (hb.cell (p := ⟨b + 1 + 1, 1, none⟩) (by simp only; omega)).trans hs.2.2.2.1, below_on hs.2.2.2.2 (Nat.le_refl _) hb⟩
abbrev FS (w : World) (p d : Pt) (W : World) : Prop := Below w.heap.size w W ∧ Blk W (w.heap.size) 43 #[.int .i16 d.x] ∧ Blk W (w.heap.size + 1) 43 #[.int .i16 d.y] ∧ Blk W (w.heap.size + 1 + 1) 35 #[.int .i64 p.x, .int .i64 p.y]
theorem FS.on {w W W' : World} {p d : Pt} (h : FS w p d W) (hb : Below W.heap.size W W') : FS w p d W' := ⟨below_on h.1 (Nat.le_refl _) hb, Blk.below h.2.1 hb (Blk.lt h.2.1), Blk.below h.2.2.1 hb (Blk.lt h.2.2.1), Blk.below h.2.2.2 hb (Blk.lt h.2.2.2)⟩
theorem FS.alloc {w W : World} {p d : Pt} (h : FS w p d W) (o : Obj) : FS w p d (W.alloc o) := ⟨h.1.alloc h.1.size o, Blk.alloc h.2.1 o, Blk.alloc h.2.2.1 o, Blk.alloc h.2.2.2 o⟩
theorem FS.c0 {w W : World} {p d : Pt} (h : FS w p d W) : W.cell? ⟨w.heap.size, 0, none⟩ = some (.int .i16 d.x) ∧ w.heap.size < W.heap.size := ⟨by rw [Blk.cell h.2.1 0]; rfl, Blk.lt h.2.1⟩
theorem FS.c1 {w W : World} {p d : Pt} (h : FS w p d W) : W.cell? ⟨w.heap.size + 1, 0, none⟩ = some (.int .i16 d.y) ∧ w.heap.size + 1 < W.heap.size := ⟨by rw [Blk.cell h.2.2.1 0]; rfl, Blk.lt h.2.2.1⟩
theorem FS.c2 {w W : World} {p d : Pt} (h : FS w p d W) : W.cell? ⟨w.heap.size + 1 + 1, 0, none⟩ = some (.int .i64 p.x) ∧ W.cell? ⟨w.heap.size + 1 + 1, 1, none⟩ = some (.int .i64 p.y) ∧ w.heap.size + 1 + 1 < W.heap.size := ⟨by rw [Blk.cell h.2.2.2 0]; rfl, by rw [Blk.cell h.2.2.2 1]; rfl, Blk.lt h.2.2.2⟩
theorem FS.new (w : World) (p d : Pt) : FS w p d (((w.alloc (.cells #[.int .i16 d.x] 43)).alloc (.cells #[.int .i16 d.y] 43)).alloc (.cells #[.int .i64 p.x, .int .i64 p.y] 35)) := by
  refine ⟨((((Below.refl _ _).alloc (Nat.le_refl _) _).alloc (by simp) _).alloc (by simp; omega) _), ?_, ?_, ?_⟩
  · have := Blk.alloc (Blk.alloc (Blk.new w 43 #[.int .i16 d.x]) (.cells #[.int .i16 d.y] 43)) (.cells #[.int .i64 p.x, .int .i64 p.y] 35)
    exact this
  · have := Blk.alloc (Blk.new (w.alloc (.cells #[.int .i16 d.x] 43)) 43 #[.int .i16 d.y]) (.cells #[.int .i64 p.x, .int .i64 p.y] 35)
    rw [World.size_alloc] at this
    exact this
  · have := Blk.new ((w.alloc (.cells #[.int .i16 d.x] 43)).alloc (.cells #[.int .i16 d.y] 43)) 35 #[.int .i64 p.x, .int .i64 p.y]
    rw [World.size_alloc, World.size_alloc] at this
    exact this
abbrev FX (w : World) (p d : Pt) (ys : List Pt) (n : Nat) (A : Option Addr) (W : World) : Prop := FS w p d W ∧ Reads W W.heap.size 2 A n (ptsV ys)
theorem FX.on {w W W' : World} {p d : Pt} {ys : List Pt} {n : Nat} {A : Option Addr} (h : FX w p d ys n A W) (hb : Below W.heap.size W W') : FX w p d ys n A W' := ⟨h.1.on hb, h.2.on hb⟩
abbrev FY (w : World) (p d : Pt) (ys : List Pt) (n : Nat) (A : Option Addr) (z : Int) (g : Nat) (W : World) : Prop := FX w p d ys n A W ∧ Blk W g 26 #[.int .i64 (z / 18446744073709551616), .int .u64 (z % 18446744073709551616)]
theorem FY.on {w W W' : World} {p d : Pt} {ys : List Pt} {n : Nat} {A : Option Addr} {z : Int} {g : Nat} (h : FY w p d ys n A z g W) (hb : Below W.heap.size W W') : FY w p d ys n A z g W' := ⟨FX.on h.1 hb, Blk.below h.2 hb (Blk.lt h.2)⟩
abbrev FZ (w : World) (p d : Pt) (ys : List Pt) (n : Nat) (A : Option Addr) (z : Int) (g g2 : Nat) (W : World) : Prop := FY w p d ys n A z g W ∧ Blk W g2 26 #[.int .i64 (z / 18446744073709551616), .int .u64 (z % 18446744073709551616)]
theorem FZ.on {w W W' : World} {p d : Pt} {ys : List Pt} {n : Nat} {A : Option Addr} {z : Int} {g g2 : Nat} (h : FZ w p d ys n A z g g2 W) (hb : Below W.heap.size W W') : FZ w p d ys n A z g g2 W' := ⟨FY.on h.1 hb, Blk.below h.2 hb (Blk.lt h.2)⟩
set_option maxRecDepth 100000 in
set_option maxHeartbeats 3200000 in
theorem ringShifts_any (xs : List Pt) (d p : Pt) (A : Option Addr) (n cap : Nat) (w : World) (hr : Reads w w.heap.size 2 A n (ptsV xs)) (hn : n ≤ 8796093022208) (hx : ∀ p ∈ xs, p.inI) (hd : (-32768 ≤ d.x ∧ d.x ≤ 32767) ∧ -32768 ≤ d.y ∧ d.y ≤ 32767) (hp : p.inI) :
    Calls Try.prog 6 #[.slice A n cap, .int .i16 d.x, .int .i16 d.y, ptV p] w fun e w' => e = .returned (.bool true) ∧ Below w.heap.size w w' := by
  obtain ⟨i0, hi0, hz0, hz1, hz2⟩ := info_parts info_pt
  have hl : xs.length = n := hr.lenPt
  have hnI : n ≤ 9223372036854775807 := by omega
  obtain ⟨ys, hys⟩ : ∃ ys, ys = xs.map (mv d) := ⟨_, rfl⟩
  have hyl : ys.length = n := by rw [hys, List.length_map]; exact hl
  have kO : ∀ V, Below w.heap.size w V → Calls Try.prog 16 #[.slice A n cap] V fun e V' => ∃ A' c, e = .returned (.slice A' n c) ∧ Reads V' V'.heap.size 2 A' n (ptsV xs) ∧ Below V.heap.size V V' := fun V hV =>
    (own03_any xs A n cap V ((hr.below hV).more hV.size) hn).mono fun e V' ⟨A', c, h1, h2, h3⟩ => ⟨A', c, h1, Reads.of_own h2, h3⟩
  have kT : ∀ V B c, Reads V V.heap.size 2 B n (ptsV ys) → Calls Try.prog 16 #[.slice B n c] V fun e V' => ∃ A' c, e = .returned (.slice A' n c) ∧ Reads V' V'.heap.size 2 A' n (ptsV ys) ∧ Below V.heap.size V V' := fun V B c h =>
    (own03_any ys B n c V h hn).mono fun e V' ⟨A', c, h1, h2, h3⟩ => ⟨A', c, h1, Reads.of_own h2, h3⟩
  have kA : ∀ V A' c, Reads V V.heap.size 2 A' n (ptsV xs) → Calls Try.prog 15 #[.slice A' n c] V fun e V' => e = .returned (.tuple #[i128 (areaV xs), .int .i64 (areaE xs)]) ∧ Below V.heap.size V V' := fun V A' c h => area_any xs A' n c V h hnI hx
  have kB : ∀ V A' c, goodL xs = true → goodL ys = true → Reads V V.heap.size 2 A' n (ptsV ys) → Calls Try.prog 15 #[.slice A' n c] V fun e V' => e = .returned (.tuple #[i128 (areaV xs), .int .i64 (areaE xs)]) ∧ Below V.heap.size V V' := by
    intro V A' c g1 g2 h
    have hyI : ∀ q ∈ ys, q.inI := fun q hq => good_inI (List.all_eq_true.1 g2 q hq)
    have := area_any ys A' n c V h hnI hyI
    rw [hys] at g2
    rw [hys, (area_mvE g1 g2).1, (area_mvE g1 g2).2] at this
    exact this
  have kC : ∀ V A' c, Reads V V.heap.size 2 A' n (ptsV xs) → Calls Try.prog 19 #[.slice A' n c] V fun e V' => e = .returned (.int .i64 (checkI xs)) ∧ Below V.heap.size V V' := fun V A' c h => check_any xs A' n c V h hnI hx
  have kD : ∀ V A' c, goodL xs = true → goodL ys = true → Reads V V.heap.size 2 A' n (ptsV ys) → Calls Try.prog 19 #[.slice A' n c] V fun e V' => e = .returned (.int .i64 (checkI xs)) ∧ Below V.heap.size V V' := by
    intro V A' c g1 g2 h
    have hyI : ∀ q ∈ ys, q.inI := fun q hq => good_inI (List.all_eq_true.1 g2 q hq)
    have := check_any ys A' n c V h hnI hyI
    rw [hys] at g2
    rw [hys, check_mv g1 g2] at this
    exact this
  have kS : ∀ V A' c, Reads V V.heap.size 2 A' n (ptsV xs) → Calls Try.prog 21 #[.slice A' n c, .agg #[.int .i64 p.x, .int .i64 p.y]] V fun e V' => e = .returned (.tuple #[.int .i64 (sideV xs p), .int .i64 (sideE xs p)]) ∧ Below V.heap.size V V' := fun V A' c h => sideW_any xs p A' n c V h hnI hx hp
  have kU : ∀ V A' c, goodL xs = true → goodL ys = true → good p = true → good (mv d p) = true → Reads V V.heap.size 2 A' n (ptsV ys) → Calls Try.prog 21 #[.slice A' n c, .agg #[.int .i64 (mv d p).x, .int .i64 (mv d p).y]] V fun e V' => e = .returned (.tuple #[.int .i64 (sideV xs p), .int .i64 (sideE xs p)]) ∧ Below V.heap.size V V' := by
    intro V A' c g1 g2 g3 g4 h
    have hyI : ∀ q ∈ ys, q.inI := fun q hq => good_inI (List.all_eq_true.1 g2 q hq)
    have := sideW_any ys (mv d p) A' n c V h hnI hyI (good_inI g4)
    rw [hys] at g2
    rw [hys, (sideW_mv g1 g2 g3 g4).1, (sideW_mv g1 g2 g3 g4).2] at this
    exact this
  have kM : ∀ V q, good q = true → FS w p d V → Calls Try.prog 25 #[.agg #[.int .i64 q.x, .int .i64 q.y], .pointer (some ⟨w.heap.size, 0, none⟩), .pointer (some ⟨w.heap.size + 1, 0, none⟩)] V fun e V' => e = .returned (.agg #[.int .i64 (mv d q).x, .int .i64 (mv d q).y]) ∧ Below V.heap.size V V' := fun V q hq hF => by
    obtain ⟨a1, a2⟩ := hF.c0
    obtain ⟨b1, b2⟩ := hF.c1
    exact move_any q d _ _ V hq hd a1 b1 a2 b2
  unfold i128 at kA kB
  generalize areaV xs = z at *
  generalize areaE xs = ae at *
  generalize checkI xs = ce at *
  generalize sideV xs p = sv at *
  generalize sideE xs p = se at *
  have HK := Lib.hid (And.intro kO (And.intro kT (And.intro kA (And.intro kB (And.intro kC (And.intro kD (And.intro kS kU)))))))
  have HM := Lib.hid kM
  have HX := Lib.hid (And.intro hr (And.intro hx (And.intro hd (And.intro hp (And.intro hl hys)))))
  clear kO kT kA kB kC kD kS kU kM hr hx hd hp hl hys hyl
  have H0 := Lib.hid (FS.new w p d)
  unfold ptV
  go_enter Try.func6, Try.ntmps6
  go_wp2_with fail
  generalize (((w.alloc (.cells #[.int .i16 d.x] 43)).alloc (.cells #[.int .i16 d.y] 43)).alloc (.cells #[.int .i64 p.x, .int .i64 p.y] 35)) = W0 at *
  refine (ans03_any _).mono ?_
  rintro e w1 ⟨rfl, hb1⟩
  have H1 := Lib.hid (H0.out.on hb1)
  clear hb1 H0
  by_cases h128 : 128 < n
  · have h1 : (128 : Int) < (n : Int) := by omega
    go_wp2_with fail
    refine (ans03_any _).mono ?_
    rintro e w2 ⟨rfl, hb2⟩
    have H2 := Lib.hid (H1.out.on hb2)
    clear hb2 H1
    go_wp2_with fail
    go_ret
    exact ⟨rfl, H2.out.1⟩
  · have h1 : ¬ (128 : Int) < (n : Int) := by omega
    have hown0 : w1.ownsRow w1.heap.size 35 2 (.slice none 0 0) 0 (ptsV ((xs.take 0).map (mv d))) := by simp [ptsV, World.ownsRow_nil]
    go_wp2_with fail
    go_loopw [10, 11] (fun s i wr => ∃ k : Nat, k ≤ n ∧ i = .int .i64 (k : Int) ∧ (∃ A' c, s = .slice A' k c ∧ wr.ownsRow w1.heap.size 35 2 (.slice A' k c) k (ptsV ((xs.take k).map (mv d)))) ∧ Hid (goodL (xs.take k) = true ∧ goodL ((xs.take k).map (mv d)) = true) ∧ Below w1.heap.size w1 wr) (fun _ i _ => n - (intOf i).toNat)
    case atStart => exact ⟨0, Nat.zero_le _, rfl, ⟨none, 0, rfl, hown0⟩, ⟨by simp [goodL], by simp [goodL]⟩, Below.refl _ _⟩
    case round =>
      clear hown0
      obtain ⟨k, hk, rfl, ⟨A', c, rfl, hown⟩, hgd, hbel⟩ := hrel
      have HF := Lib.hid (H1.out.on hbel)
      have HO := Lib.hid (And.intro hown hbel)
      clear hown hbel
      by_cases hlt : k < n
      · have hlt' : (k : Int) < (n : Int) := by omega
        have hw1 : IntKind.i64.wrap ((k : Int) + 1) = (k : Int) + 1 := by rw [IntKind.wrap_i64]; omega
        obtain ⟨ad, rfl, -, -, -, -⟩ := HX.out.1.pt hlt
        have hRd : ∀ V, Below w.heap.size w V → V.cell? (ad.add (k * 2)) = some (.int .i64 (ptAt xs k).x) ∧ V.cell? ⟨(ad.add (k * 2)).block, (ad.add (k * 2)).off + 1, none⟩ = some (.int .i64 (ptAt xs k).y) := fun V hV => (((HX.out.1.below hV).more hV.size).ptA hlt).2
        have hqI := ptAt_inI HX.out.2.1 (k := k) (by have := HX.out.2.2.2.2.1; omega)
        have htk : xs.take (k + 1) = xs.take k ++ [ptAt xs k] := by
          rw [List.take_succ_eq_append_getElem (by have := HX.out.2.2.2.2.1; omega), ptAt_lt (by have := HX.out.2.2.2.2.1; omega)]
        generalize ptAt xs k = q at *
        have HQ := Lib.hid (And.intro hRd (And.intro hqI htk))
        clear hRd hqI htk
        obtain ⟨x1, x2⟩ := HQ.out.1 _ HF.out.1
        rcases hgq : good q with _ | _
        · go_wp2_with fail
          refine (goodOne_any q _ HQ.out.2.1 _ rfl).mono ?_
          rintro e w2 ⟨rfl, hb2⟩
          rw [hgq]
          have H2 := Lib.hid ((HF.out.alloc (.cells #[.int .i64 q.x, .int .i64 q.y] 35)).on hb2)
          clear hb2 HF x1 x2 hgq
          go_wp2_with fail
          go_ret
          exact ⟨rfl, H2.out.1⟩
        · have HGq := Lib.hid hgq
          go_wp2_with fail
          refine (goodOne_any q _ HQ.out.2.1 _ rfl).mono ?_
          rintro e w2 ⟨rfl, hb2⟩
          rw [hgq]
          have HO2 := Lib.hid (And.intro (own_below (HO.out.1.alloc (.cells #[.int .i64 q.x, .int .i64 q.y] 35)) hb2) (below_on (HO.out.2.alloc HO.out.2.size (.cells #[.int .i64 q.x, .int .i64 q.y] 35)) (Nat.le_refl _) hb2))
          have H2 := Lib.hid ((HF.out.alloc (.cells #[.int .i64 q.x, .int .i64 q.y] 35)).on hb2)
          clear hb2 HF HO x1 x2 hgq
          obtain ⟨x1, x2⟩ := HQ.out.1 _ H2.out.1
          go_wp2_with fail
          have kq := HM.out w2 q HGq.out H2.out
          have hmI := good_mvI HGq.out HX.out.2.2.1
          obtain ⟨m, hm⟩ : ∃ m, m = mv d q := ⟨_, rfl⟩
          rw [← hm] at kq hmI
          have HMm := Lib.hid (And.intro hm hmI)
          clear hm hmI
          with_reducible refine kq.mono ?_
          rintro e w3 ⟨rfl, hb3⟩
          clear kq
          have HO3 := Lib.hid (And.intro (own_below HO2.out.1 hb3) (below_on HO2.out.2 (Nat.le_refl _) hb3))
          have H3 := Lib.hid (H2.out.on hb3)
          clear hb3 H2 HO2 x1 x2
          rcases hgm : good m with _ | _
          · go_wp2_with fail
            refine (goodOne_any m _ HMm.out.2 _ rfl).mono ?_
            rintro e w4 ⟨rfl, hb4⟩
            rw [hgm]
            have H4 := Lib.hid ((H3.out.alloc (.cells #[.int .i64 m.x, .int .i64 m.y] 35)).on hb4)
            clear hb4 H3 hgm
            go_wp2_with fail
            go_ret
            exact ⟨rfl, H4.out.1⟩
          · have HGm := Lib.hid hgm
            go_wp2_with fail
            refine (goodOne_any m _ HMm.out.2 _ rfl).mono ?_
            rintro e w4 ⟨rfl, hb4⟩
            rw [hgm]
            have HO4 := Lib.hid (And.intro (own_below (HO3.out.1.alloc (.cells #[.int .i64 m.x, .int .i64 m.y] 35)) hb4) (below_on (HO3.out.2.alloc HO3.out.2.size (.cells #[.int .i64 m.x, .int .i64 m.y] 35)) (Nat.le_refl _) hb4))
            have H4 := Lib.hid ((H3.out.alloc (.cells #[.int .i64 m.x, .int .i64 m.y] 35)).on hb4)
            clear hb4 H3 HO3 hgm
            obtain ⟨x1, x2⟩ := HQ.out.1 _ H4.out.1
            go_wp2_with fail
            have kq := HM.out w4 q HGq.out H4.out
            rw [← HMm.out.1] at kq
            with_reducible refine kq.mono ?_
            rintro e w5 ⟨rfl, hb5⟩
            clear kq
            have HO5 := Lib.hid (And.intro (own_below HO4.out.1 hb5) (below_on HO4.out.2 (Nat.le_refl _) hb5))
            clear hb5 H4 HO4 x1 x2
            go_wp2_with (at_builtin; refine wpList_append_any _ rfl (.tmp 53) (.tmp 60) _ rfl w1.heap.size 35 i0 _ 2 16 Try.underlying23 hi0 hz0 hz1 hz2 rfl (by omega) (.slice A' k c) k _ rfl (HO5.out.1.alloc _) (w5.alloc (.cells #[.int .i64 m.x, .int .i64 m.y] 35)).heap.size (some ⟨w5.heap.size, 0, none⟩) 1 1 _ rfl (reads_onePt w5 m _ rfl) (by simp [Value.oneCell', ptsV]) (by simp only [maxLen]; omega) (by omega) (by simp; have := HO5.out.2.size; omega) ?_
                         intro v6 w6 hown6 hg6 hat6)
            have hB6 : Below w1.heap.size w1 w6 := (HO5.out.2.alloc HO5.out.2.size (.cells #[.int .i64 m.x, .int .i64 m.y] 35)).grown hg6 (by simp; have := HO5.out.2.size; omega) (fun k hk => (HO5.out.1.lt k hk).1)
            obtain ⟨A6, c6, rfl⟩ := own_form hown6
            have hrow : w6.ownsRow w1.heap.size 35 2 (.slice A6 (k + 1) c6) (k + 1) (ptsV ((xs.take (k + 1)).map (mv d))) := by
              rw [HQ.out.2.2, List.map_append, ptsV_append, List.map_cons, List.map_nil, ← HMm.out.1]
              exact hown6
            have hgd2 : Hid (goodL (xs.take (k + 1)) = true ∧ goodL ((xs.take (k + 1)).map (mv d)) = true) := by
              refine ⟨?_, ?_⟩
              · rw [HQ.out.2.2]
                have := hgd.out.1
                unfold goodL at *
                rw [List.all_append, this]
                simp [HGq.out]
              · rw [HQ.out.2.2, List.map_append, List.map_cons, List.map_nil, ← HMm.out.1]
                have := hgd.out.2
                unfold goodL at *
                rw [List.all_append, this]
                simp [HGm.out]
            have H6 := Lib.hid (And.intro hrow hB6)
            clear hrow hB6 hown6 hg6 hat6 HO5 hgd HQ HGq HGm HMm
            go_wp2_with fail
            go_roundw
            case rel => exact ⟨k + 1, by omega, by go_num, ⟨A6, c6, rfl, H6.out.1⟩, hgd2, H6.out.2⟩
            case measure => simp [intOf]; omega
      · have hkn : k = n := by omega
        subst hkn
        obtain ⟨hg1, hg2⟩ := hgd.out
        rw [List.take_of_length_le (by have := HX.out.2.2.2.2.1; omega)] at hg1 hg2
        rw [← HX.out.2.2.2.2.2] at hg2
        have hrd := Reads.of_own HO.out.1
        rw [List.take_of_length_le (by have := HX.out.2.2.2.2.1; omega), ← HX.out.2.2.2.2.2] at hrd
        have HY := Lib.hid (And.intro hg1 (And.intro hg2 hrd))
        clear hg1 hg2 hrd hgd HO
        obtain ⟨f0, f1, -⟩ := HF.out.c2
        rcases hgq : good p with _ | _
        · go_wp2_with fail
          refine (goodOne_any p _ HX.out.2.2.2.1 _ rfl).mono ?_
          rintro e w2 ⟨rfl, hb2⟩
          rw [hgq]
          have H2 := Lib.hid ((HF.out.alloc (.cells #[.int .i64 p.x, .int .i64 p.y] 35)).on hb2)
          clear hb2 HF HY f0 f1 hgq
          go_wp2_with fail
          go_ret
          exact ⟨rfl, H2.out.1⟩
        · have HGp := Lib.hid hgq
          go_wp2_with fail
          refine (goodOne_any p _ HX.out.2.2.2.1 _ rfl).mono ?_
          rintro e w2 ⟨rfl, hb2⟩
          rw [hgq]
          have HR2 := Lib.hid (((HY.out.2.2.below ((Below.refl _ _).alloc (Nat.le_refl _) (.cells #[.int .i64 p.x, .int .i64 p.y] 35))).more (Below.size ((Below.refl _ _).alloc (Nat.le_refl _) (.cells #[.int .i64 p.x, .int .i64 p.y] 35)))).on hb2)
          have H2 := Lib.hid ((HF.out.alloc (.cells #[.int .i64 p.x, .int .i64 p.y] 35)).on hb2)
          clear hb2 HF f0 f1 hgq
          obtain ⟨f0, f1, -⟩ := H2.out.c2
          go_wp2_with fail
          have kq := HM.out w2 p HGp.out H2.out
          have hmI := good_mvI HGp.out HX.out.2.2.1
          obtain ⟨m, hm⟩ : ∃ m, m = mv d p := ⟨_, rfl⟩
          rw [← hm] at kq hmI
          have HMm := Lib.hid (And.intro hm hmI)
          clear hm hmI
          with_reducible refine kq.mono ?_
          rintro e w3 ⟨rfl, hb3⟩
          clear kq
          have HR3 := Lib.hid (HR2.out.on hb3)
          have H3 := Lib.hid (H2.out.on hb3)
          clear hb3 H2 HR2 f0 f1
          rcases hgm : good m with _ | _
          · go_wp2_with fail
            refine (goodOne_any m _ HMm.out.2 _ rfl).mono ?_
            rintro e w4 ⟨rfl, hb4⟩
            rw [hgm]
            have H4 := Lib.hid ((H3.out.alloc (.cells #[.int .i64 m.x, .int .i64 m.y] 35)).on hb4)
            clear hb4 H3 hgm HR3
            go_wp2_with fail
            go_ret
            exact ⟨rfl, H4.out.1⟩
          · have HGm := Lib.hid hgm
            go_wp2_with fail
            refine (goodOne_any m _ HMm.out.2 _ rfl).mono ?_
            rintro e w4 ⟨rfl, hb4⟩
            rw [hgm]
            have HR4 := Lib.hid (((HR3.out.below ((Below.refl _ _).alloc (Nat.le_refl _) (.cells #[.int .i64 m.x, .int .i64 m.y] 35))).more (Below.size ((Below.refl _ _).alloc (Nat.le_refl _) (.cells #[.int .i64 m.x, .int .i64 m.y] 35)))).on hb4)
            have H4 := Lib.hid ((H3.out.alloc (.cells #[.int .i64 m.x, .int .i64 m.y] 35)).on hb4)
            clear hb4 H3 hgm HR3
            go_wp2_with fail
            have HX4 := Lib.hid (And.intro H4.out HR4.out)
            clear H4 HR4
            with_reducible refine (HK.out.1 _ HX4.out.1.1).mono ?_
            rintro e w5 ⟨A5, c5, rfl, hr5, hb5⟩
            have H5 := Lib.hid (And.intro hr5 (FX.on HX4.out hb5))
            clear hr5 hb5 HX4
            go_wp2_with fail
            with_reducible refine (HK.out.2.2.1 _ _ _ H5.out.1).mono ?_
            rintro e w6 ⟨rfl, hb6⟩
            have H6 := Lib.hid (FX.on H5.out.2 hb6)
            clear hb6 H5
            obtain ⟨g, hg⟩ : ∃ g, g = w6.heap.size := ⟨_, rfl⟩
            have hX : FY w p d ys k A' z g (w6.alloc (.cells #[.int .i64 (z / 18446744073709551616), .int .u64 (z % 18446744073709551616)] 26)) := by
              rw [hg]
              exact ⟨FX.on H6.out ((Below.refl _ _).alloc (Nat.le_refl _) _), Blk.new w6 _ _⟩
            have H7 := Lib.hid hX
            clear hX H6
            go_wp2_with fail
            rw [← hg]
            generalize w6.alloc (.cells #[.int .i64 (z / 18446744073709551616), .int .u64 (z % 18446744073709551616)] 26) = w7 at *
            clear hg
            with_reducible refine (HK.out.2.1 _ _ _ H7.out.1.2).mono ?_
            rintro e w8 ⟨A8, c8, rfl, hr8, hb8⟩
            have H8 := Lib.hid (And.intro hr8 (FY.on H7.out hb8))
            clear hr8 hb8 H7
            go_wp2_with fail
            with_reducible refine (HK.out.2.2.2.1 _ _ _ HY.out.1 HY.out.2.1 H8.out.1).mono ?_
            rintro e w9 ⟨rfl, hb9⟩
            have H9 := Lib.hid (FY.on H8.out.2 hb9)
            clear hb9 H8
            obtain ⟨g2, hg2⟩ : ∃ g2, g2 = w9.heap.size := ⟨_, rfl⟩
            have hX : FZ w p d ys k A' z g g2 (w9.alloc (.cells #[.int .i64 (z / 18446744073709551616), .int .u64 (z % 18446744073709551616)] 26)) := by
              rw [hg2]
              exact ⟨FY.on H9.out ((Below.refl _ _).alloc (Nat.le_refl _) _), Blk.new w9 _ _⟩
            have H10 := Lib.hid hX
            clear hX H9
            go_wp2_with fail
            rw [← hg2]
            refine wp_named_ fun Wr hWr => ?_
            have HR := Lib.hid (show FZ w p d ys k A' z g g2 Wr by rw [hWr]; exact H10.out)
            clear hWr H10 hg2
            have hBd := HR.out.1.1.1.1.drew
            have hlt : w.heap.size + 1 + 1 < Wr.heap.size := HR.out.1.1.1.c2.2.2
            have hP0 : HoldD Wr Wr.drew w.heap.size d p := ⟨HR.out.1.1.1.c0.1, HR.out.1.1.1.c1.1, HR.out.1.1.1.c2.1, HR.out.1.1.1.c2.2.1, (Below.refl _ _).drew⟩
            go_region_held3 (fun V => V.cell? ⟨w.heap.size, 0, none⟩ = some (.int .i16 d.x) ∧ V.cell? ⟨w.heap.size + 1, 0, none⟩ = some (.int .i16 d.y) ∧ V.cell? ⟨w.heap.size + 1 + 1, 0, none⟩ = some (.int .i64 p.x) ∧ V.cell? ⟨w.heap.size + 1 + 1, 1, none⟩ = some (.int .i64 p.y) ∧ Below Wr.heap.size Wr V)
              (first | with_reducible exact hP0 | with_reducible exact heldD hlt (by assumption) (by assumption))
              (first
                | (go_simp; go_at_call 16; (with_reducible refine (HK.out.1 _ hBd).mono ?_); rintro e w' ⟨A1, c1, rfl, hr1, hb'⟩; try dsimp only)
                | (go_simp; go_at_call 21; (with_reducible refine (HK.out.2.2.2.2.2.2.1 _ _ _ (by assumption)).mono ?_); rintro e w' ⟨rfl, hb'⟩; try dsimp only))
            clear hP0 hBd
            obtain ⟨-, -, -, -, hbV⟩ := (by assumption : HoldD Wr _ w.heap.size d p)
            have H11 := Lib.hid (FZ.on HR.out hbV)
            clear hbV HR hlt
            go_wp2_with fail
            refine wp_named_ fun Ws hWs => ?_
            have HR := Lib.hid (show FZ w p d ys k A' z g g2 Ws by rw [hWs]; exact H11.out)
            clear hWs H11
            have hRd : Reads Ws.drew Ws.drew.heap.size 2 A' k (ptsV ys) := HR.out.1.1.2
            have hlt : w.heap.size + 1 + 1 < Ws.heap.size := HR.out.1.1.1.c2.2.2
            have hMv : ∀ V, HoldD Ws V w.heap.size d p → Calls Try.prog 25 #[.agg #[.int .i64 p.x, .int .i64 p.y], .pointer (some ⟨w.heap.size, 0, none⟩), .pointer (some ⟨w.heap.size + 1, 0, none⟩)] V fun e V' => e = .returned (.agg #[.int .i64 m.x, .int .i64 m.y]) ∧ Below V.heap.size V V' := fun V hV => by
              rw [HMm.out.1]
              have := hV.2.2.2.2.size
              exact move_any p d _ _ V HGp.out HX.out.2.2.1 hV.1 hV.2.1 (by omega) (by omega)
            have hP0 : HoldD Ws Ws.drew w.heap.size d p := ⟨HR.out.1.1.1.c0.1, HR.out.1.1.1.c1.1, HR.out.1.1.1.c2.1, HR.out.1.1.1.c2.2.1, (Below.refl _ _).drew⟩
            have hUm : ∀ V A' c, Reads V V.heap.size 2 A' k (ptsV ys) → Calls Try.prog 21 #[.slice A' k c, .agg #[.int .i64 m.x, .int .i64 m.y]] V fun e V' => e = .returned (.tuple #[.int .i64 sv, .int .i64 se]) ∧ Below V.heap.size V V' := fun V A' c h => by
              have := HK.out.2.2.2.2.2.2.2 V A' c HY.out.1 HY.out.2.1 HGp.out (by rw [← HMm.out.1]; exact HGm.out) h
              rw [← HMm.out.1] at this
              exact this
            go_region_held3 (fun V => V.cell? ⟨w.heap.size, 0, none⟩ = some (.int .i16 d.x) ∧ V.cell? ⟨w.heap.size + 1, 0, none⟩ = some (.int .i16 d.y) ∧ V.cell? ⟨w.heap.size + 1 + 1, 0, none⟩ = some (.int .i64 p.x) ∧ V.cell? ⟨w.heap.size + 1 + 1, 1, none⟩ = some (.int .i64 p.y) ∧ Below Ws.heap.size Ws V)
              (first | with_reducible exact hP0 | with_reducible exact heldD hlt (by assumption) (by assumption))
              (first
                | (go_simp; go_at_call 16; (with_reducible refine (HK.out.2.1 _ _ _ hRd).mono ?_); rintro e w' ⟨A1, c1, rfl, hr1, hb'⟩; try dsimp only)
                | (go_simp; go_at_call 25; (with_reducible refine (hMv _ (by assumption)).mono ?_); rintro e w' ⟨rfl, hb'⟩; have hr2 := Reads.on hr1 hb'; try dsimp only)
                | (go_simp; go_at_call 21; (with_reducible refine (hUm _ _ _ (by assumption)).mono ?_); rintro e w' ⟨rfl, hb'⟩; try dsimp only))
            clear hP0 hRd hMv hUm
            obtain ⟨-, -, -, -, hbV⟩ := (by assumption : HoldD Ws _ w.heap.size d p)
            have H12 := Lib.hid (FZ.on HR.out hbV)
            clear hbV HR hlt
            obtain ⟨x1, x2, -, -⟩ := blk_two H12.out.1.2
            obtain ⟨y1, y2, -, -⟩ := blk_two H12.out.2
            go_wp2_with fail
            with_reducible refine (HK.out.1 _ H12.out.1.1.1.1).mono ?_
            rintro e w13 ⟨A13, c13, rfl, hr13, hb13⟩
            have H13 := Lib.hid (And.intro hr13 (FX.on H12.out.1.1 hb13))
            clear hr13 hb13 H12 x1 x2 y1 y2
            go_wp2_with fail
            with_reducible refine (HK.out.2.2.2.2.1 _ _ _ H13.out.1).mono ?_
            rintro e w14 ⟨rfl, hb14⟩
            have H14 := Lib.hid (FX.on H13.out.2 hb14)
            clear hb14 H13
            go_wp2_with fail
            with_reducible refine (HK.out.2.1 _ _ _ H14.out.2).mono ?_
            rintro e w15 ⟨A15, c15, rfl, hr15, hb15⟩
            have H15 := Lib.hid (And.intro hr15 (FX.on H14.out hb15))
            clear hr15 hb15 H14
            go_wp2_with fail
            with_reducible refine (HK.out.2.2.2.2.2.1 _ _ _ HY.out.1 HY.out.2.1 H15.out.1).mono ?_
            rintro e w16 ⟨rfl, hb16⟩
            have H16 := Lib.hid (FX.on H15.out.2 hb16)
            clear hb16 H15
            go_wp2_with fail
            go_ret
            exact ⟨by simp, H16.out.1.1⟩
end Go.Proofs.Ytcohioplkchojaa

/- geo.line: the walk. -/
import Derived.Test.YtcohioplkchojaaGeo
import Derived.Test.YtcohioplkchojaaGood
namespace Go.Proofs.Ytcohioplkchojaa
open Go.RowKit
/-- A block that is just a point. -/
def PtB (w : World) (g : Nat) (p : Pt) : Prop := Blk w g 35 #[.int .i64 p.x, .int .i64 p.y]
section
variable {w w' : World} {g : Nat} {p : Pt}
theorem PtB.new (w : World) (p : Pt) : PtB (w.alloc (.cells #[.int .i64 p.x, .int .i64 p.y] 35)) w.heap.size p := Blk.new w _ _
theorem PtB.pt (h : PtB w g p) : HasPt w g p := ⟨by rw [h.cell 0]; rfl, by rw [h.cell 1]; rfl, h.lt⟩
theorem PtB.facts (h : PtB w g p) : w.cell? ⟨g, 0, none⟩ = some (.int .i64 p.x) ∧ w.cell? ⟨g, 1, none⟩ = some (.int .i64 p.y) ∧ w.frozen? ⟨g, 0, none⟩ = false ∧ w.frozen? ⟨g, 1, none⟩ = false :=
  ⟨h.pt.1, h.pt.2.1, h.frozen 0, h.frozen 1⟩
theorem PtB.on (h : PtB w g p) (hb : Below w.heap.size w w') : PtB w' g p := Blk.below h hb h.lt
theorem PtB.alloc (h : PtB w g p) (o : Obj) : PtB (w.alloc o) g p := Blk.alloc h o
theorem PtB.drew (h : PtB w g p) : PtB w.drew g p := h
theorem PtB.far (h : PtB w g p) {q : Addr} (hq : g ≠ q.block) (u : Value) : PtB (w.setCell q u) g p := Blk.far h hq u
theorem PtB.put (h : PtB w g p) (q : Pt) : PtB ((w.setCell ⟨g, 0, none⟩ (.int .i64 q.x)).setCell ⟨g, 1, none⟩ (.int .i64 q.y)) g q :=
  (Blk.set_ (Blk.set_ h 0 (.int .i64 q.x)) 1 (.int .i64 q.y))
theorem PtB.far2 (h : PtB w g p) {k : Nat} (hk : g ≠ k) (u v : Value) : PtB ((w.setCell ⟨k, 0, none⟩ u).setCell ⟨k, 1, none⟩ v) g p := (h.far (q := ⟨k, 0, none⟩) hk u).far (q := ⟨k, 1, none⟩) hk v
end
theorem below_put {B : Nat} {w w' : World} (h : Below B w w') {k : Nat} (hk : B ≤ k) (u v : Value) : Below B w ((w'.setCell ⟨k, 0, none⟩ u).setCell ⟨k, 1, none⟩ v) := (h.setCell (p := ⟨k, 0, none⟩) hk u).setCell (p := ⟨k, 1, none⟩) hk v
theorem calls_named {P : Program} {f : FuncId} {args : Array Value} {w : World} {Q : Ending → World → Prop} (h : ∀ W, W = w → Calls P f args W Q) : Calls P f args w Q := h w rfl
theorem wp_named {P : Program} {c : Code} {Q : Exit → Act → World → Prop} {a : Act} {w : World} (h : ∀ W, W = w → c.wp P Q a W) : c.wp P Q a w := h w rfl
/-- The four points of a call, boxed. -/
theorem four_new (w : World) (a b c d : Pt) : ∀ W, W = (((w.alloc (.cells #[.int .i64 a.x, .int .i64 a.y] 35)).alloc (.cells #[.int .i64 b.x, .int .i64 b.y] 35)).alloc (.cells #[.int .i64 c.x, .int .i64 c.y] 35)).alloc (.cells #[.int .i64 d.x, .int .i64 d.y] 35) →
    PtB W w.heap.size a ∧ PtB W (w.heap.size + 1) b ∧ PtB W (w.heap.size + 1 + 1) c ∧ PtB W (w.heap.size + 1 + 1 + 1) d ∧ Below w.heap.size w W ∧ W.heap.size = w.heap.size + 1 + 1 + 1 + 1 := by
  rintro W rfl
  have h1 := (((PtB.new w a).alloc (.cells #[.int .i64 b.x, .int .i64 b.y] 35)).alloc (.cells #[.int .i64 c.x, .int .i64 c.y] 35)).alloc (.cells #[.int .i64 d.x, .int .i64 d.y] 35)
  have h2 := ((PtB.new (w.alloc (.cells #[.int .i64 a.x, .int .i64 a.y] 35)) b).alloc (.cells #[.int .i64 c.x, .int .i64 c.y] 35)).alloc (.cells #[.int .i64 d.x, .int .i64 d.y] 35)
  have h3 := (PtB.new ((w.alloc (.cells #[.int .i64 a.x, .int .i64 a.y] 35)).alloc (.cells #[.int .i64 b.x, .int .i64 b.y] 35)) c).alloc (.cells #[.int .i64 d.x, .int .i64 d.y] 35)
  have h4 := PtB.new (((w.alloc (.cells #[.int .i64 a.x, .int .i64 a.y] 35)).alloc (.cells #[.int .i64 b.x, .int .i64 b.y] 35)).alloc (.cells #[.int .i64 c.x, .int .i64 c.y] 35)) d
  simp only [World.size_alloc] at h2 h3 h4
  exact ⟨h1, h2, h3, h4, ((((Below.refl _ _).alloc (Nat.le_refl _) _).alloc (by simp) _).alloc (by simp; omega) _).alloc (by simp; omega) _, by simp⟩
set_option maxHeartbeats 1600000 in
theorem line_any (a b c d : Pt) (w : World) :
    Calls Try.prog 100 #[ptV a, ptV b, ptV c, ptV d] w fun e w' => e = .returned (.int .i64 (lineI a b c d)) ∧ Below w.heap.size w w' := by
  have hcase := lineI_cases a b c d
  obtain ⟨r, hr⟩ : ∃ r, r = lineI a b c d := ⟨_, rfl⟩
  obtain ⟨f, hf⟩ : ∃ f, f = lnF a b c d := ⟨_, rfl⟩
  obtain ⟨t, ht⟩ : ∃ t, t = lnT a b c d := ⟨_, rfl⟩
  rw [← hr, ← hf, ← ht] at hcase
  rw [← hr]
  have hF : (0 < ordI (endA a b) (endA c d) ∧ f = endA a b) ∨ (ordI (endA a b) (endA c d) ≤ 0 ∧ f = endA c d) := by
    rw [hf]; unfold lnF; split
    · exact .inl ⟨by assumption, rfl⟩
    · exact .inr ⟨by omega, rfl⟩
  have hT : (ordI (endB c d) (endB a b) < 0 ∧ t = endB c d) ∨ (0 ≤ ordI (endB c d) (endB a b) ∧ t = endB a b) := by
    rw [ht]; unfold lnT; split
    · exact .inl ⟨by assumption, rfl⟩
    · exact .inr ⟨by omega, rfl⟩
  clear hf ht hr
  have HK := Lib.hid hcase
  have HF := Lib.hid hF
  have HT := Lib.hid hT
  clear hcase hF hT
  have hnew := four_new w a b c d
  unfold ptV
  go_enter Try.func100, Try.ntmps100
  have HN := Lib.hid hnew
  clear hnew
  go_wp2_with fail
  refine calls_named fun W hW => ?_
  obtain ⟨kA, kB, kC, kD, kW, kz⟩ := HN.out W hW
  clear hW HN kz
  refine (ends_any a b _).mono ?_
  rintro e w1 ⟨rfl, hb1⟩
  replace kA := kA.on hb1
  replace kB := kB.on hb1
  replace kC := kC.on hb1
  replace kD := kD.on hb1
  replace kW := kW.trans (hb1.mono kW.size)
  obtain ⟨a', ha⟩ : ∃ q, q = endA a b := ⟨_, rfl⟩
  obtain ⟨b', hb⟩ : ∃ q, q = endB a b := ⟨_, rfl⟩
  have hF := HF.out
  have hT := HT.out
  rw [← ha] at hF
  rw [← hb] at hT
  rw [← ha, ← hb]
  replace HF := Lib.hid hF
  replace HT := Lib.hid hT
  clear hb1 ha hb hF hT
  obtain ⟨a1, a2, a3, a4⟩ := kA.facts
  obtain ⟨b1, b2, b3, b4⟩ := kB.facts
  obtain ⟨c1, c2, c3, c4⟩ := kC.facts
  obtain ⟨d1, d2, d3, d4⟩ := kD.facts
  unfold ptV
  go_wp2_with fail
  refine calls_named fun W hW => ?_
  replace kA : PtB W w.heap.size a' := by rw [hW]; exact (kA.put a').far2 (by omega) _ _
  replace kB : PtB W (w.heap.size + 1) b' := by rw [hW]; exact (kB.far2 (by omega) _ _).put b'
  replace kC : PtB W (w.heap.size + 1 + 1) c := by rw [hW]; exact (kC.far2 (by omega) _ _).far2 (by omega) _ _
  replace kD : PtB W (w.heap.size + 1 + 1 + 1) d := by rw [hW]; exact (kD.far2 (by omega) _ _).far2 (by omega) _ _
  replace kW : Below w.heap.size w W := by rw [hW]; exact below_put (below_put kW (by omega) _ _) (by omega) _ _
  clear hW a1 a2 a3 a4 b1 b2 b3 b4 c1 c2 c3 c4 d1 d2 d3 d4
  refine (ends_any c d _).mono ?_
  rintro e w2 ⟨rfl, hb2⟩
  replace kA := kA.on hb2
  replace kB := kB.on hb2
  replace kC := kC.on hb2
  replace kD := kD.on hb2
  replace kW := kW.trans (hb2.mono kW.size)
  obtain ⟨c', hc⟩ : ∃ q, q = endA c d := ⟨_, rfl⟩
  obtain ⟨d', hd⟩ : ∃ q, q = endB c d := ⟨_, rfl⟩
  have hF := HF.out
  have hT := HT.out
  rw [← hc] at hF
  rw [← hd] at hT
  rw [← hc, ← hd]
  replace HF := Lib.hid hF
  replace HT := Lib.hid hT
  clear hb2 hc hd hF hT
  obtain ⟨a1, a2, a3, a4⟩ := kA.facts
  obtain ⟨b1, b2, b3, b4⟩ := kB.facts
  obtain ⟨c1, c2, c3, c4⟩ := kC.facts
  obtain ⟨d1, d2, d3, d4⟩ := kD.facts
  unfold ptV
  go_wp2_with fail
  refine wp_named fun W hW => ?_
  replace kA : PtB W w.heap.size a' := by rw [hW]; exact (kA.far2 (by omega) _ _).far2 (by omega) _ _
  replace kB : PtB W (w.heap.size + 1) b' := by rw [hW]; exact (kB.far2 (by omega) _ _).far2 (by omega) _ _
  replace kC : PtB W (w.heap.size + 1 + 1) c' := by rw [hW]; exact (kC.put c').far2 (by omega) _ _
  replace kD : PtB W (w.heap.size + 1 + 1 + 1) d' := by rw [hW]; exact (kD.far2 (by omega) _ _).put d'
  replace kW : Below w.heap.size w W := by rw [hW]; exact below_put (below_put kW (by omega) _ _) (by omega) _ _
  clear hW a1 a2 a3 a4 b1 b2 b3 b4 c1 c2 c3 c4 d1 d2 d3 d4
  obtain ⟨b1, b2, _⟩ := kB.pt
  obtain ⟨c1, c2, _⟩ := kC.pt
  have b3 := fun o => (kB.alloc o).pt.1
  have b4 := fun o => (kB.alloc o).pt.2.1
  have c3 := fun o => (kC.alloc o).pt.1
  have c4 := fun o => (kC.alloc o).pt.2.1
  have b5 := fun o o' => ((kB.alloc o).alloc o').pt.1
  have b6 := fun o o' => ((kB.alloc o).alloc o').pt.2.1
  have c5 := fun o o' => ((kC.alloc o).alloc o').pt.1
  have c6 := fun o o' => ((kC.alloc o).alloc o').pt.2.1
  have hWz : w.heap.size + 1 + 1 + 1 < W.heap.size := kD.lt
  go_region
  · generalize hW2 : ((W.alloc (.cells #[.int .i64 c'.x, .int .i64 c'.y] 35)).alloc (.cells #[.int .i64 b'.x, .int .i64 b'.y] 35)).drew = W2
    have kF : PtB W2 W.heap.size c' := by
      rw [← hW2]
      exact ((PtB.new W c').alloc _).drew
    have kT : PtB W2 (W.heap.size + 1) b' := by
      rw [← hW2]
      have := PtB.new (W.alloc (.cells #[.int .i64 c'.x, .int .i64 c'.y] 35)) b'
      rw [World.size_alloc] at this
      exact this.drew
    have hne : W.heap.size ≠ (W.heap.size + 1) := by omega
    have g1 : w.heap.size + 1 + 1 + 1 < W.heap.size := by omega
    have g2 : w.heap.size + 1 + 1 + 1 < (W.heap.size + 1) := by omega
    replace kA : PtB W2 w.heap.size a' := by rw [← hW2]; exact ((kA.alloc _).alloc _).drew
    replace kB : PtB W2 (w.heap.size + 1) b' := by rw [← hW2]; exact ((kB.alloc _).alloc _).drew
    replace kD : PtB W2 (w.heap.size + 1 + 1 + 1) d' := by rw [← hW2]; exact ((kD.alloc _).alloc _).drew
    replace kW : Below w.heap.size w W2 := by rw [← hW2]; exact ((kW.alloc (by omega) _).alloc (by simp; omega) _).drew
    replace kC : PtB W2 (w.heap.size + 1 + 1) c' := by rw [← hW2]; exact ((kC.alloc _).alloc _).drew
    clear hW2 b1 b2 b3 b4 b5 b6 c1 c2 c3 c4 c5 c6
    obtain ⟨a1, a2, a3⟩ := kA.pt
    obtain ⟨c1, c2, c3⟩ := kC.pt
    go_wp2_with fail
    refine (order_any a' c' _).mono ?_
    rintro e w3 ⟨rfl, hb3⟩
    replace kA := kA.on hb3
    replace kB := kB.on hb3
    replace kD := kD.on hb3
    replace kF := kF.on hb3
    replace kT := kT.on hb3
    replace kW := kW.trans (hb3.mono kW.size)
    clear hb3 a1 a2 a3 c1 c2 c3
    rcases HF.out with ⟨hF, rfl⟩ | ⟨hF, rfl⟩
    all_goals
      clear HF
      obtain ⟨a1, a2, a3, a4⟩ := kA.facts
      obtain ⟨b1, b2, b3, b4⟩ := kB.facts
      obtain ⟨d1, d2, d3, d4⟩ := kD.facts
      obtain ⟨f1, f2, f3, f4⟩ := kF.facts
      go_wp2_with fail
      refine calls_named fun W3 hW3 => ?_
      first
      | (replace kF : PtB W3 W.heap.size f := by rw [hW3]; exact kF.put _
         replace kB : PtB W3 (w.heap.size + 1) b' := by rw [hW3]; exact kB.far2 (by omega) _ _
         replace kD : PtB W3 (w.heap.size + 1 + 1 + 1) d' := by rw [hW3]; exact kD.far2 (by omega) _ _
         replace kT : PtB W3 (W.heap.size + 1) b' := by rw [hW3]; exact kT.far2 (by omega) _ _
         replace kW : Below w.heap.size w W3 := by rw [hW3]; exact below_put kW (by omega) _ _
         clear hW3 hF a1 a2 a3 a4 b1 b2 b3 b4 d1 d2 d3 d4 f1 f2 f3 f4
         refine (order_any d' b' _).mono ?_
         rintro e w4 ⟨rfl, hb4⟩
         have hq4 : PtB w4 W.heap.size f ∧ PtB w4 (W.heap.size + 1) b' ∧ PtB w4 (w.heap.size + 1 + 1 + 1) d' ∧ Below w.heap.size w w4 := ⟨kF.on hb4, kT.on hb4, kD.on hb4, kW.trans (hb4.mono kW.size)⟩
         clear kF kT kD kW
         obtain ⟨kF, kT, kD, kW⟩ := hq4
         clear hb4)
      | (replace kF : PtB W3 W.heap.size f := by rw [hW3]; exact kF
         replace kB : PtB W3 (w.heap.size + 1) b' := by rw [hW3]; exact kB
         replace kD : PtB W3 (w.heap.size + 1 + 1 + 1) d' := by rw [hW3]; exact kD
         replace kT : PtB W3 (W.heap.size + 1) b' := by rw [hW3]; exact kT
         replace kW : Below w.heap.size w W3 := by rw [hW3]; exact kW
         clear hW3 hF a1 a2 a3 a4 b1 b2 b3 b4 d1 d2 d3 d4 f1 f2 f3 f4
         refine (order_any d' b' _).mono ?_
         rintro e w4 ⟨rfl, hb4⟩
         have hq4 : PtB w4 W.heap.size f ∧ PtB w4 (W.heap.size + 1) b' ∧ PtB w4 (w.heap.size + 1 + 1 + 1) d' ∧ Below w.heap.size w w4 := ⟨kF.on hb4, kT.on hb4, kD.on hb4, kW.trans (hb4.mono kW.size)⟩
         clear kF kT kD kW
         obtain ⟨kF, kT, kD, kW⟩ := hq4
         clear hb4)
      rcases HT.out with ⟨hT, rfl⟩ | ⟨hT, rfl⟩
      all_goals
        clear HT
        obtain ⟨f1, f2, f3⟩ := kF.pt
        obtain ⟨t1, t2, t3, t4⟩ := kT.facts
        obtain ⟨d1, d2, d3⟩ := kD.pt
        go_wp2_with fail
        refine calls_named fun W4 hW4 => ?_
        first
        | (replace kF : PtB W4 W.heap.size f := by rw [hW4]; exact kF.far2 (by omega) _ _
           replace kT : PtB W4 (W.heap.size + 1) t := by rw [hW4]; exact kT.put _
           replace kW : Below w.heap.size w W4 := by rw [hW4]; exact below_put kW (by omega) _ _
           clear hW4 hT f1 f2 f3 t1 t2 t3 t4 d1 d2 d3)
        | (replace kF : PtB W4 W.heap.size f := by rw [hW4]; exact kF
           replace kT : PtB W4 (W.heap.size + 1) t := by rw [hW4]; exact kT
           replace kW : Below w.heap.size w W4 := by rw [hW4]; exact kW
           clear hW4 hT f1 f2 f3 t1 t2 t3 t4 d1 d2 d3)
        refine (order_any f t _).mono ?_
        rintro e w5 ⟨rfl, hb5⟩
        replace kW := kW.trans (hb5.mono kW.size)
        clear hb5
        rcases HK.out with ⟨hk, rfl⟩ | ⟨hk, rfl⟩ | ⟨hk, rfl⟩
        · go_wp2
          go_ret
          exact ⟨rfl, kW⟩
        · have hk2 : (ordI f t == 0) = true := by simpa using hk
          have hk3 : ¬ 0 < ordI f t := by omega
          clear hk
          go_wp2
          go_ret
          exact ⟨rfl, kW⟩
        · have hk2 : (ordI f t == 0) = false := by simp; omega
          have hk3 : ¬ 0 < ordI f t := by omega
          clear hk
          go_wp2
          go_ret
          exact ⟨rfl, kW⟩
  · generalize hW2 : ((W.alloc (.cells #[.int .i64 b'.x, .int .i64 b'.y] 35)).alloc (.cells #[.int .i64 c'.x, .int .i64 c'.y] 35)).drew = W2
    have kF : PtB W2 (W.heap.size + 1) c' := by
      rw [← hW2]
      have := PtB.new (W.alloc (.cells #[.int .i64 b'.x, .int .i64 b'.y] 35)) c'
      rw [World.size_alloc] at this
      exact this.drew
    have kT : PtB W2 W.heap.size b' := by
      rw [← hW2]
      exact ((PtB.new W b').alloc _).drew
    have hne : (W.heap.size + 1) ≠ W.heap.size := by omega
    have g1 : w.heap.size + 1 + 1 + 1 < (W.heap.size + 1) := by omega
    have g2 : w.heap.size + 1 + 1 + 1 < W.heap.size := by omega
    replace kA : PtB W2 w.heap.size a' := by rw [← hW2]; exact ((kA.alloc _).alloc _).drew
    replace kB : PtB W2 (w.heap.size + 1) b' := by rw [← hW2]; exact ((kB.alloc _).alloc _).drew
    replace kD : PtB W2 (w.heap.size + 1 + 1 + 1) d' := by rw [← hW2]; exact ((kD.alloc _).alloc _).drew
    replace kW : Below w.heap.size w W2 := by rw [← hW2]; exact ((kW.alloc (by omega) _).alloc (by simp; omega) _).drew
    replace kC : PtB W2 (w.heap.size + 1 + 1) c' := by rw [← hW2]; exact ((kC.alloc _).alloc _).drew
    clear hW2 b1 b2 b3 b4 b5 b6 c1 c2 c3 c4 c5 c6
    obtain ⟨a1, a2, a3⟩ := kA.pt
    obtain ⟨c1, c2, c3⟩ := kC.pt
    go_wp2_with fail
    refine (order_any a' c' _).mono ?_
    rintro e w3 ⟨rfl, hb3⟩
    replace kA := kA.on hb3
    replace kB := kB.on hb3
    replace kD := kD.on hb3
    replace kF := kF.on hb3
    replace kT := kT.on hb3
    replace kW := kW.trans (hb3.mono kW.size)
    clear hb3 a1 a2 a3 c1 c2 c3
    rcases HF.out with ⟨hF, rfl⟩ | ⟨hF, rfl⟩
    all_goals
      clear HF
      obtain ⟨a1, a2, a3, a4⟩ := kA.facts
      obtain ⟨b1, b2, b3, b4⟩ := kB.facts
      obtain ⟨d1, d2, d3, d4⟩ := kD.facts
      obtain ⟨f1, f2, f3, f4⟩ := kF.facts
      go_wp2_with fail
      refine calls_named fun W3 hW3 => ?_
      first
      | (replace kF : PtB W3 (W.heap.size + 1) f := by rw [hW3]; exact kF.put _
         replace kB : PtB W3 (w.heap.size + 1) b' := by rw [hW3]; exact kB.far2 (by omega) _ _
         replace kD : PtB W3 (w.heap.size + 1 + 1 + 1) d' := by rw [hW3]; exact kD.far2 (by omega) _ _
         replace kT : PtB W3 W.heap.size b' := by rw [hW3]; exact kT.far2 (by omega) _ _
         replace kW : Below w.heap.size w W3 := by rw [hW3]; exact below_put kW (by omega) _ _
         clear hW3 hF a1 a2 a3 a4 b1 b2 b3 b4 d1 d2 d3 d4 f1 f2 f3 f4
         refine (order_any d' b' _).mono ?_
         rintro e w4 ⟨rfl, hb4⟩
         have hq4 : PtB w4 (W.heap.size + 1) f ∧ PtB w4 W.heap.size b' ∧ PtB w4 (w.heap.size + 1 + 1 + 1) d' ∧ Below w.heap.size w w4 := ⟨kF.on hb4, kT.on hb4, kD.on hb4, kW.trans (hb4.mono kW.size)⟩
         clear kF kT kD kW
         obtain ⟨kF, kT, kD, kW⟩ := hq4
         clear hb4)
      | (replace kF : PtB W3 (W.heap.size + 1) f := by rw [hW3]; exact kF
         replace kB : PtB W3 (w.heap.size + 1) b' := by rw [hW3]; exact kB
         replace kD : PtB W3 (w.heap.size + 1 + 1 + 1) d' := by rw [hW3]; exact kD
         replace kT : PtB W3 W.heap.size b' := by rw [hW3]; exact kT
         replace kW : Below w.heap.size w W3 := by rw [hW3]; exact kW
         clear hW3 hF a1 a2 a3 a4 b1 b2 b3 b4 d1 d2 d3 d4 f1 f2 f3 f4
         refine (order_any d' b' _).mono ?_
         rintro e w4 ⟨rfl, hb4⟩
         have hq4 : PtB w4 (W.heap.size + 1) f ∧ PtB w4 W.heap.size b' ∧ PtB w4 (w.heap.size + 1 + 1 + 1) d' ∧ Below w.heap.size w w4 := ⟨kF.on hb4, kT.on hb4, kD.on hb4, kW.trans (hb4.mono kW.size)⟩
         clear kF kT kD kW
         obtain ⟨kF, kT, kD, kW⟩ := hq4
         clear hb4)
      rcases HT.out with ⟨hT, rfl⟩ | ⟨hT, rfl⟩
      all_goals
        clear HT
        obtain ⟨f1, f2, f3⟩ := kF.pt
        obtain ⟨t1, t2, t3, t4⟩ := kT.facts
        obtain ⟨d1, d2, d3⟩ := kD.pt
        go_wp2_with fail
        refine calls_named fun W4 hW4 => ?_
        first
        | (replace kF : PtB W4 (W.heap.size + 1) f := by rw [hW4]; exact kF.far2 (by omega) _ _
           replace kT : PtB W4 W.heap.size t := by rw [hW4]; exact kT.put _
           replace kW : Below w.heap.size w W4 := by rw [hW4]; exact below_put kW (by omega) _ _
           clear hW4 hT f1 f2 f3 t1 t2 t3 t4 d1 d2 d3)
        | (replace kF : PtB W4 (W.heap.size + 1) f := by rw [hW4]; exact kF
           replace kT : PtB W4 W.heap.size t := by rw [hW4]; exact kT
           replace kW : Below w.heap.size w W4 := by rw [hW4]; exact kW
           clear hW4 hT f1 f2 f3 t1 t2 t3 t4 d1 d2 d3)
        refine (order_any f t _).mono ?_
        rintro e w5 ⟨rfl, hb5⟩
        replace kW := kW.trans (hb5.mono kW.size)
        clear hb5
        rcases HK.out with ⟨hk, rfl⟩ | ⟨hk, rfl⟩ | ⟨hk, rfl⟩
        · go_wp2
          go_ret
          exact ⟨rfl, kW⟩
        · have hk2 : (ordI f t == 0) = true := by simpa using hk
          have hk3 : ¬ 0 < ordI f t := by omega
          clear hk
          go_wp2
          go_ret
          exact ⟨rfl, kW⟩
        · have hk2 : (ordI f t == 0) = false := by simp; omega
          have hk3 : ¬ 0 < ordI f t := by omega
          clear hk
          go_wp2
          go_ret
          exact ⟨rfl, kW⟩
end Go.Proofs.Ytcohioplkchojaa

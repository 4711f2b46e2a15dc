/- merestonelaw06.CutKeeps: the walk. -/
import Derived.Test.YtmegmokjjlelgaaGreatK18
import Derived.Test.YtmegmokjjlelgaaGreatK30
namespace Go.Proofs.YtmegmokjjlelgaaGreat
open Go.RowKit Go.Lib
def CtF (p : Plan) (path : List Pt) (A : Option Addr) (n c : Nat) (A' : Option Addr) (n' c' : Nat) (B : Option Addr) (m : Nat) (w W : World) : Prop := Below w.heap.size w W ∧ PlK W w.heap.size A n c A' n' c' ∧ PlanAt W W.heap.size A n c A' n' c' p ∧ Reads W W.heap.size 2 B m (ptsV path)
theorem CtF.on {p : Plan} {path : List Pt} {A A' B : Option Addr} {n c n' c' m : Nat} {w W W' : World} (h : CtF p path A n c A' n' c' B m w W) (hb : Below W.heap.size W W') : CtF p path A n c A' n' c' B m w W' :=
  ⟨below_on h.1 (Nat.le_refl _) hb, h.2.1.on hb, h.2.2.1.on hb, h.2.2.2.on hb⟩
def RowB (N : Nat) (W : World) (A : Option Addr) (n : Nat) : Prop := n ≤ 8796093022208 ∧ (0 < n → ∃ (g cap : Nat) (cur : Array Value), A = some ⟨g, 0, none⟩ ∧ N ≤ g ∧ Blk W g 44 cur ∧ n ≤ cap ∧ cur.size = cap * 2)
theorem RowB.of {N n c : Nat} {W : World} {A : Option Addr} {xs : List Value} (hn : n ≤ 8796093022208) (h : W.ownsRow N 44 2 (.slice A n c) n xs) : RowB N W A n := ⟨hn, fun h0 => by
  rcases h.2 with ⟨h1, h2⟩ | ⟨g', c', cur, h1, h2, h3, h4, -, h5, -⟩
  · cases h1; exact absurd h0 (Nat.lt_irrefl _)
  · cases h1; exact ⟨g', c, cur, rfl, h2, h3, h4, h5⟩⟩
theorem RowB.store {N n g i : Nat} {W : World} {A : Option Addr} {cs : Array Value} (h : RowB N W A n) (hg : Blk W g 44 cs) (v : Value) : RowB N (W.setCell ⟨g, i, none⟩ v) A n := ⟨h.1, fun h0 => by
  obtain ⟨g', cap, cur, h1, h2, h3, h4, h5⟩ := h.2 h0
  by_cases e : g' = g
  · subst e
    exact ⟨g', cap, _, h1, h2, Blk.set_ h3 i v, h4, by simpa using h5⟩
  · exact ⟨g', cap, cur, h1, h2, Blk.far h3 (by simpa using e) v, h4, h5⟩⟩
/-- What comes of a cut, while it is written over. -/
structure KpQ (w5 W : World) (Bq : Nat) (A3 : Option Addr) (n3 c3 : Nat) (A4 : Option Addr) (n4 c4 : Nat) : Prop where
  bel : Below w5.heap.size w5 W
  box : PlK W Bq A3 n3 c3 A4 n4 c4
  out : RowB w5.heap.size W A3 n3
  row : 0 < n4 → ∃ ad, A4 = some ad ∧ (∃ cs, Blk W ad.block 40 cs) ∧ ∀ j, j < n4 → ∃ A n c, W.cell? ⟨(ad.add (j * 3)).block, (ad.add (j * 3)).off + 1, none⟩ = some (.slice A n c) ∧ RowB w5.heap.size W A n
theorem KpQ.store {w5 W : World} {Bq n3 c3 n4 c4 g i : Nat} {A3 A4 : Option Addr} {cs : Array Value} (h : KpQ w5 W Bq A3 n3 c3 A4 n4 c4) (hg : Blk W g 44 cs) (hN : w5.heap.size ≤ g) (v : Value) : KpQ w5 (W.setCell ⟨g, i, none⟩ v) Bq A3 n3 c3 A4 n4 c4 := by
  refine ⟨h.bel.setCell (p := ⟨g, i, none⟩) hN v, Blk.far h.box (Blk.ne_ h.box hg (by decide)) v, h.out.store hg v, fun h0 => ?_⟩
  obtain ⟨ad, e, ⟨cp, hp⟩, hc⟩ := h.row h0
  have hne := Blk.ne_ hp hg (by decide)
  refine ⟨ad, e, ⟨cp, Blk.far hp hne v⟩, fun j hj => ?_⟩
  obtain ⟨A, n, c, h1, h2⟩ := hc j hj
  exact ⟨A, n, c, (World.cell?_setCell_other _ _ _ _ (fun e => hne (by have := congrArg Addr.block e; simpa [block_of_add] using this.symm))).trans h1, h2.store hg v⟩
theorem RowB.on {N n : Nat} {W W' : World} {A : Option Addr} (h : RowB N W A n) (hb : Below W.heap.size W W') : RowB N W' A n := ⟨h.1, fun h0 => by
  obtain ⟨g, cap, cur, h1, h2, h3, h4, h5⟩ := h.2 h0
  exact ⟨g, cap, cur, h1, h2, Blk.below h3 hb (Blk.lt h3), h4, h5⟩⟩
theorem KpQ.on {w5 W W' : World} {Bq n3 c3 n4 c4 : Nat} {A3 A4 : Option Addr} (h : KpQ w5 W Bq A3 n3 c3 A4 n4 c4) (hb : Below W.heap.size W W') : KpQ w5 W' Bq A3 n3 c3 A4 n4 c4 := by
  refine ⟨below_on h.bel (Nat.le_refl _) hb, h.box.on hb, h.out.on hb, fun h0 => ?_⟩
  obtain ⟨ad, e, ⟨cp, hp⟩, hc⟩ := h.row h0
  refine ⟨ad, e, ⟨cp, Blk.below hp hb (Blk.lt hp)⟩, fun j hj => ?_⟩
  obtain ⟨A, n, c, h1, h2⟩ := hc j hj
  exact ⟨A, n, c, (hb.cell (p := ⟨(ad.add (j * 3)).block, (ad.add (j * 3)).off + 1, none⟩) (by simp only [block_of_add]; exact Blk.lt hp)).trans h1, h2.on hb⟩
theorem RowB.two {N n k : Nat} {W : World} {A : Option Addr} (h : RowB N W A n) (hk : k < n) : ∃ (g : Nat) (cs : Array Value) (u v : Value), A = some ⟨g, 0, none⟩ ∧ N ≤ g ∧ Blk W g 44 cs ∧ W.cell? ⟨g, k * 2, none⟩ = some u ∧ W.cell? ⟨g, k * 2 + 1, none⟩ = some v ∧ W.frozen? ⟨g, k * 2, none⟩ = false ∧ W.frozen? ⟨g, k * 2 + 1, none⟩ = false := by
  obtain ⟨g, cap, cur, h1, h2, h3, h4, h5⟩ := h.2 (by omega)
  exact ⟨g, cur, _, _, h1, h2, h3, by rw [Blk.cell h3, Array.getElem?_eq_getElem (by omega)], by rw [Blk.cell h3, Array.getElem?_eq_getElem (by omega)], Blk.frozen h3 _, Blk.frozen h3 _⟩
set_option maxRecDepth 100000 in
set_option maxHeartbeats 6400000 in
theorem cutKeeps_any (p : Plan) (id fresh : Int) (path : List Pt) (A A' B : Option Addr) (n c n' c' m cb : Nat) (w : World) (h : PlanAt w w.heap.size A n c A' n' c' p) (hr : Reads w w.heap.size 2 B m (ptsV path)) (hx : ∀ q ∈ path, q.inI) :
    Calls Tryz.prog 7 #[planV A n c A' n' c', .int .i64 id, .slice B m cb, .int .i64 fresh] w fun e w' => e = .returned (.bool true) ∧ Below w.heap.size w w' := by
  obtain ⟨wa, hwa⟩ : ∃ wa : World, wa = w.alloc (.cells #[.slice A n c, .slice A' n' c'] 26) := ⟨_, rfl⟩
  have hF : CtF p path A n c A' n' c' B m w wa := by
    have hB0 : Below w.heap.size w wa := by rw [hwa]; exact (Below.refl _ _).alloc (Nat.le_refl _) _
    exact ⟨hB0, by rw [hwa]; exact PlK.new w A n c A' n' c', h.on hB0, hr.on hB0⟩
  have H0 := Lib.hid hF
  have HX := Lib.hid hx
  clear hF h hr hx
  go_enter Tryz.func7, Tryz.ntmps7
  go_upto_region 1 with fail
  rw [← hwa]
  clear hwa
  go_wp2_with (go_at_call 15; (with_reducible refine (ans06_any _).mono ?_); rintro e w1 ⟨rfl, hb1⟩; have H1 := Lib.hid (H0.out.on hb1); obtain ⟨q1, q2, q3⟩ := H1.out.2.1.facts; clear hb1 H0)
  refine (few6_any p A A' n c n' c' w1 H1.out.2.2.1).mono ?_
  rintro e w2 ⟨fb, rfl, hsm, hb2⟩
  have H2 := Lib.hid (H1.out.on hb2)
  clear hb2 q1 q2 q3 H1
  rcases fb with _ | _
  · clear hsm
    go_wp2_with fail
    refine (ans06_any _).mono ?_
    rintro e w3 ⟨rfl, hb3⟩
    have HB := Lib.hid (below_on H2.out.1 (Nat.le_refl _) hb3)
    clear hb3 H2
    go_wp2_with fail
    go_ret
    exact ⟨rfl, HB.out⟩
  have hn' : n' ≤ 80 := (hsm rfl).1
  clear hsm
  by_cases hm : 150 < m
  · have hm' : (150 : Int) < (m : Int) := by omega
    go_wp2_with fail
    refine (ans06_any _).mono ?_
    rintro e w3 ⟨rfl, hb3⟩
    have HB := Lib.hid (below_on H2.out.1 (Nat.le_refl _) hb3)
    clear hb3 H2 hm hm'
    go_wp2_with fail
    go_ret
    exact ⟨rfl, HB.out⟩
  have hm' : ¬ (150 : Int) < (m : Int) := by omega
  obtain ⟨i0, hi0, hz0, hz1, hz2⟩ := info_parts info_pt
  have KO := Lib.hid (ownPlS_any p A A' n c n' c' w2 H2.out.2.2.1 (by omega))
  obtain ⟨q1, q2, q3⟩ := H2.out.2.1.facts
  have HM := Lib.hid (show m ≤ 150 by omega)
  clear hm
  go_upto_region 3 with fail
  clear hm'
  go_wp2_with fail
  refine KO.out.mono ?_
  rintro e w3 ⟨A1, n1, c1, A2, n2, c2, hs, rfl, hpo, hb3⟩
  have H3 := Lib.hid (H2.out.on hb3)
  have hba : Below w3.heap.size w3 (w3.alloc (.cells #[] 44)) := (Below.refl _ _).alloc (Nat.le_refl _) _
  have hown0 : (w3.alloc (.cells #[] 44)).ownsRow w3.heap.size 44 2 (.slice (some ⟨w3.heap.size, 0, none⟩) 0 0) 0 [] := World.ownsRow_made (base := w3.heap.size) (e := 44) (size := 2) w3 #[] 0 (Nat.le_refl _) (by simp [maxLen]) rfl
  have H4 := Lib.hid (And.intro hown0 (And.intro (H3.out.on hba).2.2.2 (And.intro hpo.at_ (And.intro (show 0 + m ≤ maxLen by have := HM.out; simp only [maxLen]; omega) (And.intro (show (0 + m) * 16 ≤ 140737488355328 by have := HM.out; omega) (show w3.heap.size ≤ (w3.alloc (.cells #[] 44)).heap.size by simp))))))
  clear hb3 hba hown0 hpo q1 q2 q3 KO H2
  go_wp2_with (at_builtin; refine wpList_append_any _ rfl (.tmp 31) (.tmp 32) _ rfl w3.heap.size 44 i0 _ 2 16 Tryz.underlying23 hi0 hz0 hz1 hz2 rfl (Nat.zero_lt_succ _) (.slice (some ⟨w3.heap.size, 0, none⟩) 0 0) 0 [] rfl H4.out.1 _ B m cb (ptsV path) rfl H4.out.2.1 (ptsV_one _) H4.out.2.2.2.1 H4.out.2.2.2.2.1 H4.out.2.2.2.2.2 ?_
               intro v6 w6 hown6 hg6 hat6
               simp only [Nat.zero_add, List.nil_append] at hown6
               obtain ⟨A6, c6, rfl⟩ := own_form hown6
               have hb6 : Below w3.heap.size w3 w6 := Below.grown ((Below.refl _ _).alloc (Nat.le_refl _) _) hg6 (by simp) (fun g e => by simp [Value.ownBlock] at e; omega)
               have H5 := Lib.hid (And.intro (H3.out.on hb6) (And.intro (H4.out.2.2.1.on hb6) (Reads.of_own hown6)))
               clear hown6 hg6 hat6 hb6 H4 H3)
  obtain ⟨w5, hw5⟩ : ∃ W, W = w6.alloc (.cells #[.slice A1 n1 c1, .slice A2 n2 c2] 26) := ⟨_, rfl⟩
  have hba : Below w6.heap.size w6 w5 := by rw [hw5]; exact (Below.refl _ _).alloc (Nat.le_refl _) _
  have hK : PlK w5 w6.heap.size A1 n1 c1 A2 n2 c2 := by rw [hw5]; exact PlK.new w6 A1 n1 c1 A2 n2 c2
  obtain ⟨Bi, hBi⟩ : ∃ Bi, Bi = w6.heap.size := ⟨_, rfl⟩
  rw [← hBi] at hK
  have H6 := Lib.hid (And.intro (H5.out.1.on hba) (And.intro hK (And.intro (H5.out.2.1.on hba) (H5.out.2.2.on hba))))
  have KS := Lib.hid (spP_any p id fresh path A1 A2 A6 n1 c1 n2 c2 m c6 w5 H6.out.2.2.1 H6.out.2.2.2 HX.out (by have := HM.out; omega))
  obtain ⟨z, hz⟩ : ∃ z, z = spE p id path fresh := ⟨_, rfl⟩
  obtain ⟨Q, hQ⟩ : ∃ Q, Q = spP p id path fresh := ⟨_, rfl⟩
  rw [← hz, ← hQ] at KS
  clear hba hK H5 hz hQ
  go_upto_region 4 with fail
  rw [← hw5, ← hBi]
  clear hw5 hBi
  obtain ⟨q1, q2, q3⟩ := H6.out.2.1.facts
  go_wp2_with fail
  refine KS.out.mono ?_
  rintro e w7 ⟨A3, n3, c3, A4, n4, c4, hs7, rfl, hpo, hb7⟩
  obtain ⟨W, hW⟩ : ∃ W, W = w7.alloc (.cells #[.slice A3 n3 c3, .slice A4 n4 c4] 26) := ⟨_, rfl⟩
  have hba : Below w7.heap.size w7 W := by rw [hW]; exact (Below.refl _ _).alloc (Nat.le_refl _) _
  have hK : PlK W w7.heap.size A3 n3 c3 A4 n4 c4 := by rw [hW]; exact PlK.new w7 A3 n3 c3 A4 n4 c4
  obtain ⟨Bq, hBq⟩ : ∃ Bq, Bq = w7.heap.size := ⟨_, rfl⟩
  rw [← hBq] at hK
  have hpo2 := hpo.below hba
  have hn4 : n4 ≤ 8796093022208 := hpo2.at_.lens.2.2.2
  have hn3 : n3 ≤ 8796093022208 := hpo2.at_.lens.2.2.1
  have hQ0 : KpQ w5 W Bq A3 n3 c3 A4 n4 c4 := by
    refine ⟨below_on hb7 (Nat.le_refl _) hba, hK, RowB.of hn3 hpo2.out, fun h0 => ?_⟩
    obtain ⟨ad, rfl⟩ := hpo2.at_.parcs.some_ h0
    refine ⟨ad, rfl, ?_, fun j hj => ⟨_, _, _, hpo2.hdC hj, RowB.of (by have h1 := (hpo2.at_.fits.pc (k := j) (by rw [hpo2.lenp]; exact hj)).1; have h2 := (Reads.of_own (hpo2.rings j hj)).lenPt; omega) (hpo2.rings j hj)⟩⟩
    obtain ⟨g, cap, e, -, -⟩ := hpo2.row.form h0
    cases e
    obtain ⟨cs, hcs, -⟩ := hpo2.row.2.elim (fun h => by cases h.1) (fun ⟨g', c', cur, h1, h2, h3, h4⟩ => (⟨cur, by cases h1; exact h3, trivial⟩ : ∃ cs, Blk W g 40 cs ∧ True))
    exact ⟨cs, hcs⟩
  have HQ := Lib.hid (And.intro hQ0 (And.intro hn3 hn4))
  have H7 := Lib.hid (H6.out.1.on hQ0.bel)
  have kS1 := fun V (hV : Below w5.heap.size w5 V) => samePl_any p p A1 A2 A A' n1 c1 n2 c2 n c n' c' V (H6.out.2.2.1.on hV) (H6.out.1.on hV).2.2.1
  have kS2 := fun V (hV : Below w5.heap.size w5 V) => sameR_any path path A6 B m m c6 cb V (H6.out.2.2.2.on hV) (H6.out.1.on hV).2.2.2 (by have := HM.out; omega) (by have := HM.out; omega)
  rw [plEq_self] at kS1
  rw [decide_eq_true rfl] at kS2
  have hbx := fun V (hV : Below w5.heap.size w5 V) => ((H6.out.1.on hV).2.1.facts : V.cell? ⟨w.heap.size, 0, none⟩ = some (.slice A n c) ∧ V.cell? ⟨w.heap.size, 1, none⟩ = some (.slice A' n' c') ∧ w.heap.size < V.heap.size)
  have hby := fun V (hV : Below w5.heap.size w5 V) => (((H6.out.2.1).on hV).facts : V.cell? ⟨Bi, 0, none⟩ = some (.slice A1 n1 c1) ∧ V.cell? ⟨Bi, 1, none⟩ = some (.slice A2 n2 c2) ∧ Bi < V.heap.size)
  have hbw := fun V (hV : Below w5.heap.size w5 V) => below_on H6.out.1.1 (Nat.le_refl _) hV
  have KS1 := Lib.hid kS1
  have KS2 := Lib.hid kS2
  have HBX := Lib.hid (And.intro hbx (And.intro hby hbw))
  clear hba hK hpo hpo2 hb7 hQ0 hn3 hn4 KS q1 q2 q3 H6 H7 kS1 kS2 hbx hby hbw
  go_upto_region 5 with fail
  rw [← hW, ← hBq]
  clear hW hBq
  have hQb := HQ.out.1.bel
  obtain ⟨q1, q2, q3⟩ := HBX.out.1 _ hQb
  obtain ⟨r1, r2, r3⟩ := HBX.out.2.1 _ hQb
  have KA := Lib.hid (KS1.out _ hQb)
  go_wp2_with fail
  refine KA.out.mono ?_
  rintro e w8 ⟨rfl, hb8⟩
  have hbb := below_on hQb (Nat.le_refl _) hb8
  have KB := Lib.hid (KS2.out _ hbb)
  clear q1 q2 q3 r1 r2 r3 KA hbb
  go_wp2_with fail
  refine KB.out.mono ?_
  rintro e w9 ⟨rfl, hb9⟩
  have hb89 := below_on hb8 (Nat.le_refl _) hb9
  have hQ9 : KpQ w5 w9 Bq A3 n3 c3 A4 n4 c4 := HQ.out.1.on hb89
  have HQ9 := Lib.hid (And.intro hQ9 HQ.out.2)
  clear hb8 hb9 hb89 KB hQb HQ hQ9
  by_cases hz0 : z = 0
  case neg =>
    have hne : (z != 0) = true := by simpa using hz0
    have hQb := HQ9.out.1.bel
    obtain ⟨q1, q2, q3⟩ := HBX.out.1 _ hQb
    obtain ⟨r1, r2, r3⟩ := HBX.out.2.1 _ hQb
    have KA := Lib.hid (KS1.out _ hQb)
    have HH := Lib.hid hQb
    go_wp2_with fail
    refine KA.out.mono ?_
    rintro e w10 ⟨rfl, hba⟩
    have hbb := below_on HH.out (Nat.le_refl _) hba
    have KB := Lib.hid (KS2.out _ hbb)
    have HHB := Lib.hid hbb
    clear hba hbb q1 q2 q3 r1 r2 r3 KA HH
    go_wp2_with fail
    refine KB.out.mono ?_
    rintro e w11 ⟨rfl, hbc⟩
    have HE := Lib.hid (below_on HHB.out (Nat.le_refl _) hbc)
    clear hbc KB HHB
    go_wp2_with fail
    go_ret
    exact ⟨rfl, HBX.out.2.2 _ HE.out⟩
  subst hz0
  go_upto_region 7 with fail
  go_wp2_with fail
  go_loopw [13, 14] (fun i k wr => ∃ j : Nat, j ≤ n4 ∧ i = .int .i64 (j : Int) ∧ KpQ w5 wr Bq A3 n3 c3 A4 n4 c4) (fun i _ _ => n4 - (intOf i).toNat)
  case atStart => exact ⟨0, Nat.zero_le _, rfl, HQ9.out.1⟩
  case round =>
    obtain ⟨j, hj, rfl, hKQ⟩ := hrel
    obtain ⟨W, rfl⟩ : ∃ W, W = wr := ⟨_, rfl⟩
    obtain ⟨q1, q2, q3⟩ := hKQ.box.facts
    by_cases hlt : j < n4
    · have hlt' : (j : Int) < (n4 : Int) := by omega
      obtain ⟨ad, hA4, -, hc⟩ := hKQ.row (by omega)
      subst hA4
      obtain ⟨Aj, nj, cj, p2, hRB⟩ := hc j hlt
      have hnj := hRB.1
      have hw0 : IntKind.i64.wrap ((j : Int) + 1) = (j : Int) + 1 := by rw [IntKind.wrap_i64]; have := HQ9.out.2.2; omega
      have HI := Lib.hid (And.intro hKQ (And.intro p2 hRB))
      clear hKQ hc hRB p2
      go_wp2_with fail
      go_loopw [14] (fun kv wx => ∃ k : Nat, k ≤ nj ∧ kv = .int .i64 (k : Int) ∧ KpQ w5 wx Bq A3 n3 c3 (some ad) n4 c4 ∧ wx.cell? ⟨(ad.add (j * 3)).block, (ad.add (j * 3)).off + 1, none⟩ = some (.slice Aj nj cj) ∧ RowB w5.heap.size wx Aj nj) (fun kv _ => nj - (intOf kv).toNat)
      case atStart => exact ⟨0, Nat.zero_le _, rfl, HI.out⟩
      case round =>
        clear HI q1 q2 q3
        obtain ⟨k, hk, rfl, hKQ, p2, hRB⟩ := hrel
        obtain ⟨X, rfl⟩ : ∃ X, X = wr := ⟨_, rfl⟩
        obtain ⟨q1, q2, q3⟩ := hKQ.box.facts
        by_cases hkt : k < nj
        · have hkt' : (k : Int) < (nj : Int) := by omega
          have hw1 : IntKind.i64.wrap ((k : Int) + 1) = (k : Int) + 1 := by rw [IntKind.wrap_i64]; omega
          obtain ⟨g, cs, u, v, rfl, hN, hB, c1, c2, f1, f2⟩ := hRB.two hkt
          have e0 : (⟨g, 0, none⟩ : Addr).add (k * 2) = ⟨g, k * 2, none⟩ := add_row _ _
          have hK1 := (hKQ.store (i := k * 2) hB hN (.int .i64 99)).store (i := k * 2 + 1) (Blk.set_ hB _ _) hN (.int .i64 99)
          have hR1 := (hRB.store (i := k * 2) hB (.int .i64 99)).store (i := k * 2 + 1) (Blk.set_ hB _ _) (.int .i64 99)
          obtain ⟨ad', e1, ⟨cp, hp⟩, -⟩ := hKQ.row (by omega)
          cases e1
          have hne := Blk.ne_ hp hB (by decide)
          have hkeep : ∀ i v (V : World), V.cell? ⟨(ad.add (j * 3)).block, (ad.add (j * 3)).off + 1, none⟩ = some (.slice (some ⟨g, 0, none⟩) nj cj) → (V.setCell ⟨g, i, none⟩ v).cell? ⟨(ad.add (j * 3)).block, (ad.add (j * 3)).off + 1, none⟩ = some (.slice (some ⟨g, 0, none⟩) nj cj) := fun i v V h => (World.cell?_setCell_other _ _ _ _ (fun e => hne (by have := congrArg Addr.block e; simpa [block_of_add] using this.symm))).trans h
          have hp3 := hkeep (k * 2 + 1) (.int .i64 99) _ (hkeep (k * 2) (.int .i64 99) _ p2)
          have HZ := Lib.hid (And.intro hK1 (And.intro hp3 hR1))
          clear hK1 hp3 hR1 hkeep hne hp hB hN hKQ hRB
          go_wp2_with fail
          go_roundw
          case rel => exact ⟨k + 1, by omega, by go_num, HZ.out⟩
          case measure => simp [intOf]; omega
        · obtain rfl : k = nj := by omega
          have HZ := Lib.hid hKQ
          clear hKQ hRB
          go_wp2_with fail
          go_roundw
          case rel => exact ⟨j + 1, by omega, by go_num, HZ.out⟩
          case measure => simp [intOf]; omega
    · obtain rfl : j = n4 := by omega
      have HI := Lib.hid hKQ
      clear hKQ
      go_wp2_with fail
      clear q1 q2 q3
      obtain ⟨wo, hwo⟩ : ∃ wo, wo = W := ⟨_, rfl⟩
      rw [← hwo] at HI
      rw [← hwo]
      clear hwo
      go_loopw [15] (fun i wx => ∃ k : Nat, k ≤ n3 ∧ i = .int .i64 (k : Int) ∧ KpQ w5 wx Bq A3 n3 c3 A4 j c4) (fun i _ => n3 - (intOf i).toNat)
      case atStart => exact ⟨0, Nat.zero_le _, rfl, HI.out⟩
      case round =>
        clear HI
        obtain ⟨k, hk, rfl, hKQ⟩ := hrel
        obtain ⟨X, rfl⟩ : ∃ X, X = wr := ⟨_, rfl⟩
        obtain ⟨q1, q2, q3⟩ := hKQ.box.facts
        by_cases hkt : k < n3
        · have hkt' : (k : Int) < (n3 : Int) := by omega
          have hw1 : IntKind.i64.wrap ((k : Int) + 1) = (k : Int) + 1 := by rw [IntKind.wrap_i64]; have := HQ9.out.2.1; omega
          obtain ⟨g, cs, u, v, hA3, hN, hB, c1, c2, f1, f2⟩ := hKQ.out.two hkt
          subst hA3
          have e0 : (⟨g, 0, none⟩ : Addr).add (k * 2) = ⟨g, k * 2, none⟩ := add_row _ _
          have hK1 := (hKQ.store (i := k * 2) hB hN (.int .i64 98)).store (i := k * 2 + 1) (Blk.set_ hB _ _) hN (.int .i64 98)
          have HZ := Lib.hid hK1
          clear hK1 hB hN hKQ
          go_wp2_with fail
          go_roundw
          case rel => exact ⟨k + 1, by omega, by go_num, HZ.out⟩
          case measure => simp [intOf]; omega
        · obtain rfl : k = n3 := by omega
          have hQb := hKQ.bel
          clear hKQ
          obtain ⟨q1, q2, q3⟩ := HBX.out.1 _ hQb
          obtain ⟨r1, r2, r3⟩ := HBX.out.2.1 _ hQb
          have KA := Lib.hid (KS1.out _ hQb)
          have HH := Lib.hid hQb
          go_wp2_with fail
          refine KA.out.mono ?_
          rintro e w12 ⟨rfl, hba⟩
          have hbb := below_on HH.out (Nat.le_refl _) hba
          have KB := Lib.hid (KS2.out _ hbb)
          have HHB := Lib.hid hbb
          clear hba hbb q1 q2 q3 r1 r2 r3 KA HH
          go_wp2_with fail
          refine KB.out.mono ?_
          rintro e w13 ⟨rfl, hbc⟩
          have HE := Lib.hid (below_on HHB.out (Nat.le_refl _) hbc)
          clear hbc KB HHB
          go_wp2_with fail
          go_ret
          exact ⟨rfl, HBX.out.2.2 _ HE.out⟩
end Go.Proofs.YtmegmokjjlelgaaGreat

/- merestonelaw06.CutSplits answers true for every input and leaves its arguments as they were. No condition. -/
import Derived.Test.YtnpjggcgnbgkjaaGreatK01
import Derived.Test.YtnpjggcgnbgkjaaGreatK20
import Derived.Test.YtnpjggcgnbgkjaaGreatK37
import Derived.Test.YtnpjggcgnbgkjaaGreatK38
namespace Go.Proofs.YtnpjggcgnbgkjaaGreat
open Go.RowKit Go.Lib
def CtF (p : Plan) (path : List Pt) (A : Option Addr) (n c : Nat) (A' : Option Addr) (n' c' : Nat) (B : Option Addr) (m : Nat) (w W : World) : Prop := Below w.heap.size w W ∧ PlK W w.heap.size A n c A' n' c' ∧ PlanAt W W.heap.size A n c A' n' c' p ∧ Reads W W.heap.size 2 B m (ptsV path)
theorem CtF.on {p : Plan} {path : List Pt} {A A' B : Option Addr} {n c n' c' m : Nat} {w W W' : World} (h : CtF p path A n c A' n' c' B m w W) (hb : Below W.heap.size W W') : CtF p path A n c A' n' c' B m w W' :=
  ⟨below_on h.1 (Nat.le_refl _) hb, h.2.1.on hb, h.2.2.1.on hb, h.2.2.2.on hb⟩
set_option maxRecDepth 100000 in
set_option maxHeartbeats 6400000 in
theorem cutSplits_any (p : Plan) (id fresh : Int) (path : List Pt) (A A' B : Option Addr) (n c n' c' m cb : Nat) (w : World) (h : PlanAt w w.heap.size A n c A' n' c' p) (hr : Reads w w.heap.size 2 B m (ptsV path)) (hx : ∀ q ∈ path, q.inI) :
    Calls Tryz.prog 3 #[planV A n c A' n' c', .int .i64 id, .slice B m cb, .int .i64 fresh] w fun e w' => e = .returned (.bool true) ∧ Below w.heap.size w w' := by
  obtain ⟨wa, hwa⟩ : ∃ wa : World, wa = w.alloc (.cells #[.slice A n c, .slice A' n' c'] 26) := ⟨_, rfl⟩
  have hF : CtF p path A n c A' n' c' B m w wa := by
    have hB0 : Below w.heap.size w wa := by rw [hwa]; exact (Below.refl _ _).alloc (Nat.le_refl _) _
    exact ⟨hB0, by rw [hwa]; exact PlK.new w A n c A' n' c', h.on hB0, hr.on hB0⟩
  have H0 := Lib.hid hF
  have HX := Lib.hid hx
  clear hF h hr hx
  go_enter Tryz.func3, Tryz.ntmps3
  go_upto_region 1 with fail
  rw [← hwa]
  clear hwa
  go_wp2_with (go_at_call 15; (with_reducible refine (ans06_any _).mono ?_); rintro e w1 ⟨rfl, hb1⟩; have H1 := Lib.hid (H0.out.on hb1); obtain ⟨q1, q2, q3⟩ := H1.out.2.1.facts; clear hb1 H0)
  refine (few6_any p A A' n c n' c' w1 H1.out.2.2.1).mono ?_
  rintro e w2 ⟨fb, rfl, hsm, hb2⟩
  have H2 := Lib.hid (H1.out.on hb2)
  clear hb2 q1 q2 q3 H1
  rcases fb with _ | _
  · clear hsm
    go_wp2_with fail
    refine (ans06_any _).mono ?_
    rintro e w3 ⟨rfl, hb3⟩
    have HB := Lib.hid (below_on H2.out.1 (Nat.le_refl _) hb3)
    clear hb3 H2
    go_wp2_with fail
    go_ret
    exact ⟨rfl, HB.out⟩
  have hn' : n' ≤ 80 := (hsm rfl).1
  clear hsm
  by_cases hm : 150 < m
  · have hm' : (150 : Int) < (m : Int) := by omega
    go_wp2_with fail
    refine (ans06_any _).mono ?_
    rintro e w3 ⟨rfl, hb3⟩
    have HB := Lib.hid (below_on H2.out.1 (Nat.le_refl _) hb3)
    clear hb3 H2 hm hm'
    go_wp2_with fail
    go_ret
    exact ⟨rfl, HB.out⟩
  have hm' : ¬ (150 : Int) < (m : Int) := by omega
  have KS := Lib.hid (split6_any p id fresh path A A' B n c n' c' m cb w2 H2.out.2.2.1 H2.out.2.2.2 HX.out (by omega) (by omega))
  obtain ⟨z, hz⟩ : ∃ z, z = spE p id path fresh := ⟨_, rfl⟩
  obtain ⟨Q, hQ⟩ : ∃ Q, Q = spP p id path fresh := ⟨_, rfl⟩
  rw [← hz, ← hQ] at KS
  have KR := Lib.hid (fun V (h : PlanAt V V.heap.size A n c A' n' c' p) (hr : Reads V V.heap.size 2 B m (ptsV path)) => refSplit_any p id fresh path A A' B n c n' c' m cb V h hr HX.out (by omega))
  have kr := KR.out
  rw [← hz, ← hQ] at kr
  have KR2 := Lib.hid kr
  obtain ⟨q1, q2, q3⟩ := H2.out.2.1.facts
  clear hz hQ hm KR kr
  go_upto_region 3 with fail
  clear hm'
  go_wp2_with fail
  refine KS.out.mono ?_
  rintro e w3 ⟨A1, n1, c1, A2, n2, c2, hs, rfl, hpo, hb3⟩
  obtain ⟨W, hW⟩ : ∃ W, W = w3.alloc (.cells #[.slice A1 n1 c1, .slice A2 n2 c2] 26) := ⟨_, rfl⟩
  have hba : Below w3.heap.size w3 W := by rw [hW]; exact (Below.refl _ _).alloc (Nat.le_refl _) _
  have hK : PlK W w3.heap.size A1 n1 c1 A2 n2 c2 := by rw [hW]; exact PlK.new w3 A1 n1 c1 A2 n2 c2
  obtain ⟨Bq, hBq⟩ : ∃ Bq, Bq = w3.heap.size := ⟨_, rfl⟩
  rw [← hBq] at hK
  have hb3' := below_on hb3 (Nat.le_refl _) hba
  have H3 := Lib.hid (And.intro (H2.out.on hb3') (And.intro hK (hpo.at_.on hba)))
  clear hb3 hb3' hba hK hpo H2 KS q1 q2 q3
  go_upto_region 4 with fail
  rw [← hW, ← hBq]
  clear hW hBq
  have KR := Lib.hid (KR2.out W H3.out.1.2.2.1 H3.out.1.2.2.2)
  obtain ⟨q1, q2, q3⟩ := H3.out.1.2.1.facts
  clear KR2
  go_wp2_with fail
  refine KR.out.mono ?_
  rintro e w7 ⟨A7, n7, c7, A8, n8, c8, hs7, rfl, hP7, hb7⟩
  have hba : Below w7.heap.size w7 (w7.alloc (.cells #[.slice A7 n7 c7, .slice A8 n8 c8] 26)) := (Below.refl _ _).alloc (Nat.le_refl _) _
  have hK7 := PlK.new w7 A7 n7 c7 A8 n8 c8
  have H7 := Lib.hid (And.intro ((H3.out.1.on hb7).on hba) (And.intro ((H3.out.2.1.on hb7).on hba) (And.intro ((H3.out.2.2.on hb7).on hba) (And.intro hK7 (hP7.at_.on hba)))))
  obtain ⟨x1, x2, -⟩ := H7.out.2.1.facts
  obtain ⟨y1, y2, -⟩ := H7.out.2.2.2.1.facts
  have kS := samePl_any Q Q A1 A2 A7 A8 n1 c1 n2 c2 n7 c7 n8 c8 _ H7.out.2.2.1 H7.out.2.2.2.2
  rw [plEq_self] at kS
  have KS := Lib.hid kS
  clear hba hK7 hP7 hb7 kS H3 KR q1 q2 q3
  go_wp2_with fail
  refine KS.out.mono ?_
  rintro e w8 ⟨rfl, hb8⟩
  have HB := Lib.hid (below_on H7.out.1.1 (Nat.le_refl _) hb8)
  clear hb8 H7 KS x1 x2 y1 y2
  go_wp2_with fail
  go_ret
  exact ⟨by first | rfl | simp, HB.out⟩
end Go.Proofs.YtnpjggcgnbgkjaaGreat
namespace Go.Proofs.YtnpjggcgnbgkjaaGreat
open Go.RowKit Go.WideShapes Go.ChangeShapes Go.Deep Go.ChangeAt Go.Joins
set_option maxRecDepth 100000 in
theorem cutSplits_lifted (os : Os) (started : os.Started) (H : Type) (enc : TypeId × Value → H) :
    ReturnsInHanded {} Tryz.checked os 3 .any (Rows.cutSplitsSpec.pre6 enc Tryz.prog Tryz.f3 Rows.cutSplitsRow.domain false) (Rows.cutSplitsSpec.post enc Tryz.prog Tryz.f3 false true false false) := by
  refine returnsInHanded_of_change_sized (C := Tryz.checked) Tryz.own started (by kernel_rfl) Tryz.func3
    (ChangeSpec.witness6 (enc := enc) (C := Tryz.checked) false ⟨#[], #[.agg #[.slice none 0 0, .slice none 0 0], .int .i64 0, .slice none 0 0, .int .i64 0], []⟩ 8 (by kernel_rfl) (by kernel_rfl) (by kernel_rfl) (by kernel_rfl)) ?_
  intro W base args ds gs before hval0 hW _ hsz0 _
  have hsz : (DataW.weightsEach Tryz.prog (Tryz.f3.params.toList ++ Rows.cutSplitsSpec.plain.varTypes Tryz.prog) (ds ++ gs)).all (· ≤ reachBytes) = true := hsz0
  clear hsz0
  have hval : ∀ (j : Nat) t v, Tryz.f3.params[j]? = some t → args[j]? = some v → Value.okWide Tryz.prog W .any base t v := hval0
  have hW' := hW
  obtain ⟨p, q, hA0, hV, rfl, _, _⟩ := hW
  have hA : DataW.TrodAll enc Tryz.prog W 0 (fun _ => true) true Tryz.f3.params.toList args.toList ds p := hA0
  rw [Tryz.params3] at hA hval hsz
  obtain ⟨v0, v1, v2, v3, d0, d1, d2, d3, p0, p1, p2, p3, rfl, rfl, rfl, h0, h1, h2, h3⟩ := trodAll_four hA
  obtain ⟨rfl, rfl⟩ := trodVars_none hV
  obtain ⟨pl0, A0, n0, c0, A'0, n'0, c'0, rfl, hpl0⟩ := open_plan (hval 0 26 v0 rfl rfl) h0 (fun k hk => of_decide_eq_true (List.all_eq_true.1 hsz k (DataW.weights_mem_each (j := 0) rfl rfl k hk)))
  obtain ⟨x1, rfl, rfl, rfl, wx1⟩ := open_int Tryz.underlying3 (hval 1 3 v1 rfl rfl) h1
  have bx1 := bounds_i64 wx1
  obtain ⟨ps2, A2, cap2, rfl, hr2, hn2, hc2, hd2, hw2⟩ := open_ring (hval 2 23 v2 rfl rfl) h2 (fun elems spare hd => sized_slice hsz (j := 2) (t := 23) (e := 35) rfl (by rw [hd]; rfl) Tryz.underlying23)
  obtain ⟨x3, rfl, rfl, rfl, wx3⟩ := open_int Tryz.underlying3 (hval 3 3 v3 rfl rfl) h3
  have bx3 := bounds_i64 wx3
  clear hA0 hval0
  refine (cutSplits_any pl0 x1 x3 ps2 A0 A'0 A2 n0 c0 n'0 c'0 _ cap2 W hpl0 hr2 hw2).mono fun e W' ⟨he, hb⟩ => ⟨_, he, ?_⟩
  exact law_post Tryz.laidOut (by kernel_rfl) (by kernel_rfl) Tryz.underlying4 rfl hW' rfl rfl rfl hb

theorem cutSplits_inp : (Rows.cutSplitsRow.inPlace == Tryz.prog.inPlace 3) = true := by kernel_rfl
theorem cutSplits_unf : (Rows.cutSplitsRow.unfollowed == Tryz.prog.unfollowed 3) = true := by kernel_rfl
theorem cutSplits_rec : (Rows.cutSplitsRow.recurses == Tryz.prog.recurses 3) = true := by kernel_rfl
theorem cutSplits_nam : (Rows.cutSplitsRow.named == Tryz.prog.varsNamed 3) = true := by kernel_rfl
theorem cutSplits_closed : joinedFacts Tryz.prog 3 Tryz.f3 Rows.cutSplitsSpec Rows.cutSplitsRow = true := by
  unfold joinedFacts
  rw [cutSplits_inp, cutSplits_unf, cutSplits_rec, cutSplits_nam]
  kernel_rfl
theorem cutSplits_holds : Rows.CutSplitsSaid :=
  OpenClaim.holds_of_wide 3 Tryz.f3 rfl rfl rfl rfl rfl rfl rfl ⟨rfl, rfl, rfl, rfl, rfl⟩ rfl rfl rfl rfl rfl (by kernel_rfl) Tryz.func3 cutSplits_closed
    (of_decide_eq_true (by kernel_rfl)) (by unfold Func.isWrapper; rw [if_neg (of_decide_eq_false (by kernel_rfl))]; exact ⟨rfl, rfl⟩)
    (fun os started H enc _ => cutSplits_lifted os started H enc)
#print axioms cutSplits_holds
end Go.Proofs.YtnpjggcgnbgkjaaGreat

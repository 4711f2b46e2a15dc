/- merestonelaw04.WindowGrows answers true for every input and leaves its arguments as they were. No condition. -/
import Derived.Test.YtcohioplkchojaaLifts
import Derived.Test.YtcohioplkchojaaLiftArr
import Derived.Test.YtcohioplkchojaaLawWindowGrows
namespace Go.Proofs.Ytcohioplkchojaa
open Go.RowKit Go.WideShapes Go.ChangeShapes Go.Deep Go.ChangeAt Go.Joins
set_option maxRecDepth 100000 in
theorem windowGrows_lifted (os : Os) (started : os.Started) (H : Type) (enc : TypeId × Value → H) :
    ReturnsInHanded {} Try.checked os 12 .any (Rows.windowGrowsSpec.pre6 enc Try.prog Try.f12 Rows.windowGrowsRow.domain false) (Rows.windowGrowsSpec.post enc Try.prog Try.f12 false true false false) := by
  refine returnsInHanded_of_change_sized (C := Try.checked) Try.own started (by kernel_rfl) Try.func12
    (ChangeSpec.witness6 (enc := enc) (C := Try.checked) false ⟨#[], #[.agg #[.int .i64 0, .int .i64 0, .int .i64 0, .int .i64 0], .agg #[.int .u8 0, .int .u8 0, .int .u8 0, .int .u8 0], .agg #[.int .i64 0, .int .i64 0], .agg #[.int .i64 0, .int .i64 0], .slice none 0 0], []⟩ 8 (by kernel_rfl) (by kernel_rfl) (by kernel_rfl) (by kernel_rfl)) ?_
  intro W base args ds gs before hval0 hW _ hsz0 _
  have hsz : (DataW.weightsEach Try.prog (Try.f12.params.toList ++ Rows.windowGrowsSpec.plain.varTypes Try.prog) (ds ++ gs)).all (· ≤ reachBytes) = true := hsz0
  clear hsz0
  have hval : ∀ (j : Nat) t v, Try.f12.params[j]? = some t → args[j]? = some v → Value.okWide Try.prog W .any base t v := hval0
  have hW' := hW
  obtain ⟨p, q, hA0, hV, rfl, _, _⟩ := hW
  have hA : DataW.TrodAll enc Try.prog W 0 (fun _ => true) true Try.f12.params.toList args.toList ds p := hA0
  rw [Try.params12] at hA hval hsz
  obtain ⟨v0, vs0, d0, ds0, p0, q0, hargs, rfl, rfl, h0, r0⟩ := trodAll_cons hA
  obtain ⟨v1, vs1, d1, ds1, p1, q1, rfl, rfl, rfl, h1, r1⟩ := trodAll_cons r0
  obtain ⟨v2, vs2, d2, ds2, p2, q2, rfl, rfl, rfl, h2, r2⟩ := trodAll_cons r1
  obtain ⟨v3, vs3, d3, ds3, p3, q3, rfl, rfl, rfl, h3, r3⟩ := trodAll_cons r2
  obtain ⟨v4, vs4, d4, ds4, p4, q4, rfl, rfl, rfl, h4, r4⟩ := trodAll_cons r3
  obtain ⟨rfl, rfl, rfl⟩ := trodAll_nil r4
  obtain rfl : args = #[v0, v1, v2, v3, v4] := by rcases args with ⟨l⟩; exact congrArg Array.mk hargs
  obtain ⟨rfl, rfl⟩ := trodVars_none hV
  obtain ⟨wi0, rfl, hwi0⟩ := open_window (hval 0 52 v0 rfl rfl) h0
  obtain ⟨a1, b1, c1, e1, rfl, ba1, bb1, bc1, be1⟩ := open_u8x4 (hval 1 69 v1 rfl rfl) h1
  obtain ⟨pt2, rfl, hpt2⟩ := open_point (hval 2 35 v2 rfl rfl) h2
  obtain ⟨pt3, rfl, hpt3⟩ := open_point (hval 3 35 v3 rfl rfl) h3
  obtain ⟨ps4, A4, cap4, rfl, hr4, hn4, hc4, hd4, hw4⟩ := open_ring (hval 4 23 v4 rfl rfl) h4 (fun elems spare hd => sized_slice hsz (j := 4) (t := 23) (e := 35) rfl (by rw [hd]; rfl) Try.underlying23)
  clear hA0 hval0
  refine (windowGrows_any wi0 a1 b1 c1 e1 pt2 pt3 ps4 A4 _ cap4 W hwi0 ba1 bb1 bc1 be1 hpt2 hpt3 hr4 hn4 hw4).mono fun e W' ⟨he, hb⟩ => ⟨_, he, ?_⟩
  exact law_post Try.laidOut (by kernel_rfl) (by kernel_rfl) Try.underlying4 rfl hW' rfl rfl rfl hb

theorem windowGrows_holds : Rows.WindowGrowsSaid :=
  OpenClaim.holds_of_wide 12 Try.f12 rfl rfl rfl rfl rfl rfl rfl ⟨rfl, rfl, rfl, rfl, rfl⟩ rfl rfl rfl rfl rfl (by kernel_rfl) Try.func12 (by kernel_rfl)
    (of_decide_eq_true (by kernel_rfl)) (by unfold Func.isWrapper; rw [if_neg (of_decide_eq_false (by kernel_rfl))]; exact ⟨rfl, rfl⟩)
    (fun os started H enc _ => windowGrows_lifted os started H enc)
#print axioms windowGrows_holds
end Go.Proofs.Ytcohioplkchojaa

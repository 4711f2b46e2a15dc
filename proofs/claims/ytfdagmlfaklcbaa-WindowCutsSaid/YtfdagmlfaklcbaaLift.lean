/- From a law's walk to its row: whatever leaves older memory as it was and answers true meets the row's word. -/
import Derived.Test.YtfdagmlfaklcbaaShut
import Derived.Test.YtfdagmlfaklcbaaRows
import Derived.SizedLaws
import Derived.Lib.SmallJoins
namespace Go.Proofs.Ytfdagmlfaklcbaa
open Go.RowKit Go.WideShapes Go.ChangeShapes Go.Deep Go.ChangeAt
theorem Try.own : ownKnob Try.prog.godebug = none := by kernel_rfl
theorem Try.laidOut : laidOutB Try.prog = true := by kernel_rfl

section
variable {H : Type} {enc : TypeId × Value → H} {P : Program}
theorem trodAll_stays (hl : laidOutB P = true) {W W' : World} (hb : Below W.heap.size W W') (sp : Nat → Bool) : ∀ (ts : List TypeId) (vs : List Value) (ds : List (DataW H)) (ps : List MemPlace),
    (∀ t ∈ ts, P.readableRec t = true ∧ t < P.types.size) → DataW.TrodAll enc P W 0 (fun _ => true) true ts vs ds ps → (∀ x ∈ ps, x.block < W.heap.size) → (∀ x ∈ ps, sp x.block = true) →
    DataW.TrodAll enc P W' 0 sp true ts vs ds ps
  | [], [], [], _, _, h, _, _ => h
  | [], [], _ :: _, _, _, h, _, _ => h.elim
  | [], _ :: _, _, _, _, h, _, _ => h.elim
  | _ :: _, [], _, _, _, h, _, _ => h.elim
  | _ :: _, _ :: _, [], _, _, h, _, _ => h.elim
  | t :: ts, v :: vs, d :: ds, ps, hr, h, hlt, hs => by
    obtain ⟨p, q, h1, h2, rfl⟩ := h
    obtain ⟨hr1, hr2⟩ := hr t (by simp)
    refine ⟨p, q, WideElems.Trod_stays hl hr1 hr2 h1 (fun x hx => hb.same (hlt x (by simp [hx]))) (fun x hx => hs x (by simp [hx])), ?_, rfl⟩
    exact trodAll_stays hl hb sp ts vs ds q (fun t' ht => hr t' (by simp [ht])) h2 (fun x hx => hlt x (by simp [hx])) (fun x hx => hs x (by simp [hx]))

theorem law_post {f : Func} {s : ChangeSpec} {apart fresh handsOn again : Bool} {W W' : World} {args : Array Value} {ds : List (DataW H)} {before : List MemPlace} {tb : TypeId}
    (hl : laidOutB P = true) (hts0 : (f.params.toList.all fun t => P.readableRec t && decide (t < P.types.size)) = true) (hrt : f.resultTypes = #[tb]) (htb : P.underlying tb = some .bool) (hv : s.vars = [])
    (hW : DataW.Whole enc P f.params.toList s.vars apart W args.toList ds [] before)
    (hf1 : (s.fn H (ds ++ [])).results = [.lit (.bool true)]) (hf2 : (s.fn H (ds ++ [])).args = ds) (hf3 : (s.fn H (ds ++ [])).vars = []) (hb : Below W.heap.size W W') :
    s.post enc P f apart fresh handsOn again W args (.bool true) W' := by
  have hts : ∀ t ∈ f.params.toList, P.readableRec t = true ∧ t < P.types.size := by
    intro t ht
    have := List.all_eq_true.1 hts0 t ht
    simpa using this
  have hlt : ∀ p ∈ before, p.block < W.heap.size := fun p hp => hW.lt p hp
  have hW0 := hW
  obtain ⟨p, q, hA, hV, rfl, _, _⟩ := hW
  rw [hv] at hV
  obtain ⟨_, rfl⟩ := trodVars_none hV
  refine post_of_below (pa := p) (pv := []) hW0 (fun b sp hd => ?_) (fun sp hsp => ?_) (fun sp hsp => ?_) rfl hb ?_
  · rw [hf1, hrt]
    exact trodAll_mk1 (shut_bool htb true)
  · rw [hf2]
    exact trodAll_stays hl hb sp _ _ _ _ hts hA (fun x hx => hlt x (by simpa using hx)) (fun x hx => hsp x (by simpa using hx))
  · rw [hf3, hv]
    rfl
  · exact ok_one hrt rfl (okWide_bool_mk htb true)

theorem bounds_i64 {z : Int} (h : (Lit.int .i64 z).wf = true) : -9223372036854775808 ≤ z ∧ z ≤ 9223372036854775807 := by
  have h1 : IntKind.i64.min = -9223372036854775808 := rfl
  have h2 : IntKind.i64.max = 9223372036854775807 := rfl
  simpa only [Lit.wf, Bool.and_eq_true, decide_eq_true_eq, h1, h2] using h
theorem bounds_u16 {z : Int} (h : (Lit.int .u16 z).wf = true) : 0 ≤ z ∧ z ≤ 65535 := by
  have h1 : IntKind.u16.min = 0 := rfl
  have h2 : IntKind.u16.max = 65535 := rfl
  simpa only [Lit.wf, Bool.and_eq_true, decide_eq_true_eq, h1, h2] using h
theorem bounds_u8 {z : Int} (h : (Lit.int .u8 z).wf = true) : 0 ≤ z ∧ z ≤ 255 := by
  have h1 : IntKind.u8.min = 0 := rfl
  have h2 : IntKind.u8.max = 255 := rfl
  simpa only [Lit.wf, Bool.and_eq_true, decide_eq_true_eq, h1, h2] using h
theorem bounds_i16 {z : Int} (h : (Lit.int .i16 z).wf = true) : -32768 ≤ z ∧ z ≤ 32767 := by
  have h1 : IntKind.i16.min = -32768 := rfl
  have h2 : IntKind.i16.max = 32767 := rfl
  simpa only [Lit.wf, Bool.and_eq_true, decide_eq_true_eq, h1, h2] using h
theorem bounds_u32 {z : Int} (h : (Lit.int .u32 z).wf = true) : 0 ≤ z ∧ z ≤ 4294967295 := by
  have h1 : IntKind.u32.min = 0 := rfl
  have h2 : IntKind.u32.max = 4294967295 := rfl
  simpa only [Lit.wf, Bool.and_eq_true, decide_eq_true_eq, h1, h2] using h
theorem cell_lt {W : World} {a : Addr} {v : Value} (h : W.cell? a = some v) : a.block < W.heap.size := by
  rcases Nat.lt_or_ge a.block W.heap.size with hlt | hge
  · exact hlt
  · unfold World.cell? at h
    rw [Array.getElem?_eq_none hge] at h
    cases h
end
end Go.Proofs.Ytfdagmlfaklcbaa

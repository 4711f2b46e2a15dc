/- What lies beside Find. -/
import Derived.Test.YtgkcenhopmjmlaaBegin2
import Derived.Test.YtgkcenhopmjmlaaPlanCheck
import Derived.Test.YtgkcenhopmjmlaaSamePc
import Derived.Test.YtgkcenhopmjmlaaCorn
import Derived.Test.YtgkcenhopmjmlaaCorn2
import Derived.Test.YtgkcenhopmjmlaaFind
namespace Go.Proofs.Ytgkcenhopmjmlaa
open Go.RowKit
noncomputable def cornerE (p : Plan) (q : Pt) : Int := if planB p = true then (if good q = true then 0 else 3) else 2
noncomputable def cornerV (p : Plan) (q : Pt) : Bool := planB p && (good q && hasC p.parcels q)
noncomputable def findE (p : Plan) (id : Int) : Int := if planB p = true then (if atP p.parcels id < 0 then 5 else 0) else 2
noncomputable def findX (p : Plan) (id : Int) : Parc := if findE p id = 0 then pcAt p.parcels (atP p.parcels id).toNat else ⟨0, [], ⟨#[]⟩⟩
def FindPost (p : Plan) (id : Int) (w : World) (e : Ending) (w' : World) : Prop := ∃ A n c, e = .returned (.tuple #[pcVal (findX p id) A n c, .int .i64 (findE p id)]) ∧ (Reads w' w'.heap.size 2 A n (ptsV (findX p id).ring) ∧ n ≤ 1048576) ∧ Below w.heap.size w w'
theorem findX_no {p : Plan} {id e : Int} (h : findE p id = e) (h0 : e ≠ 0) : findX p id = ⟨0, [], ⟨#[]⟩⟩ := by unfold findX; rw [if_neg (by rw [h]; exact h0)]
theorem find_fail {p : Plan} {id e : Int} {w W : World} {g : Nat} {cs : Array Value} (he : findE p id = e) (h0 : e ≠ 0) (hb : Below w.heap.size w W) (hg : w.heap.size ≤ g) (hk : Blk W g 36 cs) (hs : cs.size = 3) :
    ∃ V, V = ((W.setCell ⟨g, 0, none⟩ (.int .i64 0)).setCell ⟨g, 1, none⟩ (.slice none 0 0)).setCell ⟨g, 2, none⟩ (.string ⟨#[]⟩) ∧ V.cell? ⟨g, 0, none⟩ = some (.int .i64 0) ∧ V.cell? ⟨g, 1, none⟩ = some (.slice none 0 0) ∧ V.cell? ⟨g, 2, none⟩ = some (.string ⟨#[]⟩) ∧ FindPost p id w (.returned (.tuple #[pcVal ⟨0, [], ⟨#[]⟩⟩ none 0 0, .int .i64 e])) V := by
  refine ⟨_, rfl, ?_⟩
  have hK := Blk.set_ (Blk.set_ (Blk.set_ hk 0 (.int .i64 0)) 1 (.slice none 0 0)) 2 (.string ⟨#[]⟩)
  have hB := ((hb.setCell (p := ⟨g, 0, none⟩) hg (.int .i64 0)).setCell (p := ⟨g, 1, none⟩) hg (.slice none 0 0)).setCell (p := ⟨g, 2, none⟩) hg (.string ⟨#[]⟩)
  obtain ⟨l⟩ := cs
  match l, hs with
  | [a, b, c], _ =>
    exact ⟨by rw [Blk.cell hK 0]; rfl, by rw [Blk.cell hK 1]; rfl, by rw [Blk.cell hK 2]; rfl, none, 0, 0, by rw [findX_no he h0, he], ⟨by rw [findX_no he h0]; exact Reads.none_, by omega⟩, hB⟩
def whoE (ps : List Parc) (e : Ed) : Int := match look (edId ps) e with | some (.int _ z) => z | _ => 0
noncomputable def leftE (p : Plan) (e : Ed) : Int := if planB p = true then (if e ∈ allE p.parcels then 0 else 5) else 2
noncomputable def leftI (p : Plan) (e : Ed) : Int := if planB p = true then whoE p.parcels e else 0
theorem edId_mem {ps : List Parc} {e : Ed} {v : Value} (h : (e, v) ∈ edId ps) : ∃ x ∈ ps, e ∈ edgesOf x.ring ∧ v = .int .i64 x.id := by
  unfold edId at h
  obtain ⟨x, hx, h2⟩ := List.mem_flatMap.1 h
  obtain ⟨f, hf, h3⟩ := List.mem_map.1 h2
  simp only [Prod.mk.injEq] at h3
  exact ⟨x, hx, h3.1 ▸ hf, h3.2.symm⟩
theorem mem_edId {ps : List Parc} {x : Parc} {e : Ed} (hx : x ∈ ps) (he : e ∈ edgesOf x.ring) : (e, Value.int .i64 x.id) ∈ edId ps := by
  unfold edId
  exact List.mem_flatMap.2 ⟨x, hx, List.mem_map.2 ⟨e, he, rfl⟩⟩
theorem whoE_in {ps : List Parc} {x : Parc} {e : Ed} (hn : (allE ps).Nodup) (hx : x ∈ ps) (he : e ∈ edgesOf x.ring) : whoE ps e = x.id := by
  unfold whoE
  rw [look_of (v := .int .i64 x.id) (by rw [edId_keys]; exact hn) (mem_edId hx he)]
theorem whoE_out {ps : List Parc} {e : Ed} (he : e ∉ allE ps) : whoE ps e = 0 := by
  unfold whoE
  rw [look_none.2 (by rw [edId_keys]; exact he)]
theorem whoE_look {ps : List Parc} {e : Ed} (he : e ∈ allE ps) : look (edId ps) e = some (.int .i64 (whoE ps e)) := by
  unfold whoE
  rcases hq : look (edId ps) e with _ | v
  · exact absurd he (by rw [← edId_keys]; exact look_none.1 hq)
  · obtain ⟨x, -, -, rfl⟩ := edId_mem (look_mem hq)
    rfl
end Go.Proofs.Ytgkcenhopmjmlaa

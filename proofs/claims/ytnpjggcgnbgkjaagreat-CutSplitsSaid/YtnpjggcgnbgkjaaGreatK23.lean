/- Plain law: a corner more on an edge; slices.Clone of rings, ring.Norm with the room of its answer: the walks. -/
import Derived.Laws.IdiomStrings
import Derived.Test.YtnpjggcgnbgkjaaGreatK12
import Derived.Test.YtnpjggcgnbgkjaaGreatK19
import Derived.Test.YtnpjggcgnbgkjaaGreatK21
import Derived.Test.YtnpjggcgnbgkjaaGreatK22
namespace Go.Proofs.YtnpjggcgnbgkjaaGreat
end Go.Proofs.YtnpjggcgnbgkjaaGreat
namespace Go.Proofs.YtnpjggcgnbgkjaaGreat
/-- The ring with a corner more behind the k-th. -/
def mark (k : Nat) (p : Pt) (xs : List Pt) : List Pt := xs.take (k + 1) ++ [p] ++ xs.drop (k + 1)
end Go.Proofs.YtnpjggcgnbgkjaaGreat
namespace Go.Proofs.YtnpjggcgnbgkjaaGreat
open Go.RowKit
end Go.Proofs.YtnpjggcgnbgkjaaGreat
namespace Go.Proofs.YtnpjggcgnbgkjaaGreat
theorem cornN_eq (n : Nat) (ps : List Parc) : cornN n ps = n + (allE ps).length := by
  induction ps generalizing n with
  | nil => rfl
  | cons x r ih =>
    rw [cornN_cons, ih]
    unfold allE
    rw [List.flatMap_cons, List.length_append, edgesOf_len]
    omega
theorem listed_bd {p : Plan} (h : listedB p = true) : 1 ≤ p.parcels.length ∧ p.parcels.length ≤ 64 ∧ p.outer.length + (allE p.parcels).length ≤ 1024 := by
  unfold listedB at h
  rw [Bool.and_eq_true, Bool.and_eq_true, Bool.and_eq_true, decide_eq_true_eq, decide_eq_true_eq, decide_eq_true_eq, cornN_eq] at h
  omega
theorem normB_iff {xs : List Pt} : normB xs = true ↔ NormedP xs := by unfold normB; simp
theorem matchB_iff {p : Plan} : matchB p = true ↔ MatchP p := by unfold matchB; simp
theorem goodL_mem {xs : List Pt} (h : goodL xs = true) {p : Pt} (hp : p ∈ xs) : good p = true := by
  unfold goodL at h
  exact List.all_eq_true.1 h p hp
theorem edges_ok {xs : List Pt} (h : checkI xs = 0) : ∀ e ∈ edgesOf xs, e.a ≠ e.b ∧ (good e.a = true ∧ good e.b = true) := by
  obtain ⟨-, h1, h2, -, h3⟩ := checkI_zero h
  have hn := pairs_nodup h3
  intro e he
  unfold edgesOf at he
  rw [List.mem_map] at he
  obtain ⟨k, hk, rfl⟩ := he
  rw [List.mem_range] at hk
  have hk2 : (k + 1) % xs.length < xs.length := Nat.mod_lt _ (by omega)
  simp only
  rw [ptAt_lt hk, ptAt_lt hk2]
  refine ⟨fun h' => ?_, goodL_mem h1 (List.getElem_mem _), goodL_mem h1 (List.getElem_mem _)⟩
  have hne : k ≠ (k + 1) % xs.length := by
    rcases Nat.lt_or_ge (k + 1) xs.length with h4 | h4
    · rw [Nat.mod_eq_of_lt h4]; omega
    · have h5 : k + 1 = xs.length := by omega
      rw [h5, Nat.mod_self]; omega
  have hp := List.pairwise_iff_getElem.1 hn
  rcases Nat.lt_or_gt_of_ne hne with h4 | h4
  · exact hp _ _ hk hk2 h4 h'
  · exact hp _ _ hk2 hk h4 h'.symm
theorem allE_mem {ps : List Parc} {e : Ed} : e ∈ allE ps ↔ ∃ x ∈ ps, e ∈ edgesOf x.ring := by unfold allE; rw [List.mem_flatMap]
/-- What plan.clean wants of a plan. -/
def PreC (p : Plan) : Prop := (2 ≤ (allE p.parcels).length ∧ (allE p.parcels).length ≤ 1048576) ∧ (∀ e ∈ allE p.parcels, e.a ≠ e.b) ∧ (∀ e ∈ allE p.parcels, good e.a = true ∧ good e.b = true) ∧ (allE p.parcels).Nodup
theorem pre_of {p : Plan} (h1 : listedB p = true) (h3 : ∀ x ∈ p.parcels, NormedP x.ring) (h4 : MatchP p) : PreC p := by
  obtain ⟨b1, b2, b3⟩ := listed_bd h1
  have hE : ∀ e ∈ allE p.parcels, e.a ≠ e.b ∧ (good e.a = true ∧ good e.b = true) := fun e he => by
    obtain ⟨x, hx, hm⟩ := allE_mem.1 he
    exact edges_ok (h3 x hx).1 e hm
  refine ⟨⟨?_, by omega⟩, fun e he => (hE e he).1, fun e he => (hE e he).2, h4.1⟩
  rcases hp : p.parcels with _ | ⟨x, r⟩
  · rw [hp] at b1; simp at b1
  · have := (checkI_zero (h3 x (by rw [hp]; simp)).1).2.2.1
    unfold allE
    rw [List.flatMap_cons, List.length_append, edgesOf_len]
    omega
theorem areas_of {p : Plan} (h2 : NormedP p.outer) (h3 : ∀ x ∈ p.parcels, NormedP x.ring) : areaE p.outer = 0 ∧ ∀ x ∈ p.parcels, areaE x.ring = 0 := by
  have hz : ∀ xs, checkI xs = 0 → areaE xs = 0 := fun xs h => by
    apply Classical.byContradiction
    intro h'
    exact h' (by rw [← checkI_err h']; exact h)
  exact ⟨hz _ h2.1, fun x hx => hz _ (h3 x hx).1⟩
theorem planE_ok {p : Plan} (h : SoundP p) : planE p = 0 := by
  unfold planE planB
  simp [h]
theorem planE_no {p : Plan} (h : ¬ SoundP p) : planE p = 2 := by
  unfold planE planB
  simp [h]
theorem any_norm {p : Plan} : (p.parcels.any fun x => !normB x.ring) = false ↔ ∀ x ∈ p.parcels, NormedP x.ring := by
  rw [List.any_eq_false]
  constructor
  · intro h x hx
    have := h x hx
    rw [Bool.not_eq_true', Bool.not_eq_false] at this
    exact normB_iff.1 this
  · intro h x hx
    rw [normB_iff.2 (h x hx)]
    decide
theorem planE_eq (p : Plan) (b5 : Bool) (h5 : b5 = true ↔ PairsE (allE p.parcels)) :
    planE p = if listedB p = true ∧ normB p.outer = true ∧ (p.parcels.any fun x => !normB x.ring) = false ∧ matchB p = true ∧ b5 = true ∧ decide (areasL p.parcels = areaZ p.outer) = true then 0 else 2 := by
  have hs : SoundP p ↔ listedB p = true ∧ normB p.outer = true ∧ (p.parcels.any fun x => !normB x.ring) = false ∧ matchB p = true ∧ b5 = true ∧ decide (areasL p.parcels = areaZ p.outer) = true := by
    rw [normB_iff, matchB_iff, h5, decide_eq_true_eq, any_norm]
    exact Iff.rfl
  by_cases h : SoundP p
  · rw [planE_ok h, if_pos (hs.1 h)]
  · rw [planE_no h, if_neg (fun h' => h (hs.2 h'))]
end Go.Proofs.YtnpjggcgnbgkjaaGreat
namespace Go.Proofs.YtnpjggcgnbgkjaaGreat
open Go.RowKit
theorem rot_mem {k : Nat} {xs : List Pt} {p : Pt} (h : p ∈ rot k xs) : p ∈ xs := by
  unfold rot at h
  rcases List.mem_append.1 h with h | h
  · exact List.mem_of_mem_drop h
  · exact List.mem_of_mem_take h
theorem pIn_one {W : World} {B g n c : Nat} {A : Option Addr} {x : Parc} (hb : Blk W g 37 #[.int .i64 x.id, .slice A n c, .string x.owner]) (hr : Reads W B 2 A n (ptsV x.ring)) (h1 : n ≤ c) (h2 : c ≤ 9223372036854775807) (hg : g < B) : PIn W B (some ⟨g, 0, none⟩) 1 [x] := by
  refine ⟨rfl, fun _ => ⟨_, rfl, hg, fun k hk => ?_⟩⟩
  obtain rfl : k = 0 := by omega
  simp only [add_row]
  exact ⟨by rw [Blk.cell hb]; rfl, ⟨A, n, c, by rw [Blk.cell hb]; rfl, hr, h1, h2⟩, by rw [Blk.cell hb]; rfl⟩
end Go.Proofs.YtnpjggcgnbgkjaaGreat

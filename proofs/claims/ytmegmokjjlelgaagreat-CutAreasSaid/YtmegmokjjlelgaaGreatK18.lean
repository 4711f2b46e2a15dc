/- slices.SortFunc of edges, by plan.clean's own order: laid off the shelf, and the order's walk; plan.Corner, plan.Find, plan.Left: the walks; window.Touches: the walk. -/
import Derived.Carry
import Derived.Maps.RangeRun
import Derived.WideKeyRuns
import Derived.Laws.IdiomCopy
import Derived.Laws.IdiomStrings
import Derived.Lib.EndianMore
import Derived.Below
import Derived.BigQuiet
import Derived.Calls
import Derived.ChangeSame
import Derived.Deep.AppendLies
import Derived.Deep.DeepCutAuto
import Derived.Deep.Draws
import Derived.Deep.Fields
import Derived.Deep.OwnRows
import Derived.Deep.QuietTactic
import Derived.Deep.RegionHeld3
import Derived.Deep.SlicePairs
import Derived.Deep.Slices
import Derived.IntWalk
import Derived.Laws.AppendOwn
import Derived.Laws.BitsAllLaws
import Derived.Laws.BitsLemmas
import Derived.Laws.Entries
import Derived.Laws.Externs
import Derived.Laws.MakeOwn
import Derived.Laws.OwnMore
import Derived.Laws.Rows
import Derived.Lib.Hide
import Derived.Lib.SmallJoins
import Derived.LoopIn
import Derived.LoopNIn
import Derived.Maps.AppendAt
import Derived.Outline
import Derived.OwnWalk
import Derived.OwnWalkIn
import Derived.ProofKit
import Derived.RangeFuncBound
import Derived.RangeFuncBox
import Derived.RangeFuncCalls
import Derived.RangeFuncLeaves
import Derived.RangeFuncNested
import Derived.RegionTactic
import Derived.Shelf.Abstract
import Derived.Shelf.RegionOpen
import Derived.SizedLaws
import Derived.Sort.CutIn
import Derived.StillTailTactics
import Derived.Stop.RegionWithIn
import Derived.TacticsInMore
import Derived.WalkKit
import Derived.WalkLawsBesides
import Derived.WalkSpells
import Derived.Test.YtmegmokjjlelgaaGreatK13
import Derived.Test.YtmegmokjjlelgaaGreatK15
namespace Go.Proofs.YtmegmokjjlelgaaGreat
open Go.Shelf
def sortEd_ren : Go.Shelf.Ren := ⟨fun | 6 => 156 | 15 => 115 | 14 => 195 | 28 => 149 | 29 => 150 | 20 => 212 | 21 => 213 | 22 => 214 | 23 => 215 | 24 => 216 | 25 => 217 | 26 => 218 | 27 => 219 | 46 => 228 | 47 => 186 | 48 => 187 | 49 => 229 | 50 => 230 | 57 => 233 | n => n, fun | 22 => 87 | 24 => 92 | 25 => 186 | 3 => 3 | 39 => 136 | 0 => 0 | 53 => 81 | 55 => 34 | 4 => 4 | 46 => 173 | 45 => 172 | 50 => 177 | 5 => 5 | 9 => 9 | 66 => 206 | 70 => 210 | 76 => 222 | 77 => 223 | n => n, fun | n => n⟩
theorem sortEd : Go.Proofs.SlLaysF0.n6 Tryz.prog sortEd_ren := {
  mixed := by kernel_rfl
  f6 := ⟨Tryz.f156.name, by decide, Tryz.func156.trans (congrArg some (by kernel_rfl))⟩
  f14 := ⟨Tryz.f195.name, by decide, Tryz.func195.trans (congrArg some (by kernel_rfl))⟩
  f15 := Tryz.func115.trans (congrArg some (by kernel_rfl))
  f20 := ⟨Tryz.f212.name, by decide, Tryz.func212.trans (congrArg some (by kernel_rfl))⟩
  f21 := ⟨Tryz.f213.name, by decide, Tryz.func213.trans (congrArg some (by kernel_rfl))⟩
  f22 := ⟨Tryz.f214.name, by decide, Tryz.func214.trans (congrArg some (by kernel_rfl))⟩
  f23 := ⟨Tryz.f215.name, by decide, Tryz.func215.trans (congrArg some (by kernel_rfl))⟩
  f24 := ⟨Tryz.f216.name, by decide, Tryz.func216.trans (congrArg some (by kernel_rfl))⟩
  f25 := ⟨Tryz.f217.name, by decide, Tryz.func217.trans (congrArg some (by kernel_rfl))⟩
  f26 := ⟨Tryz.f218.name, by decide, Tryz.func218.trans (congrArg some (by kernel_rfl))⟩
  f27 := ⟨Tryz.f219.name, by decide, Tryz.func219.trans (congrArg some (by kernel_rfl))⟩
  f28 := Tryz.func149.trans (congrArg some (by kernel_rfl))
  f29 := Tryz.func150.trans (congrArg some (by kernel_rfl))
  f46 := ⟨Tryz.f228.name, by decide, Tryz.func228.trans (congrArg some (by kernel_rfl))⟩
  f47 := Tryz.func186.trans (congrArg some (by kernel_rfl))
  f48 := Tryz.func187.trans (congrArg some (by kernel_rfl))
  f49 := ⟨Tryz.f229.name, by decide, Tryz.func229.trans (congrArg some (by kernel_rfl))⟩
  f50 := ⟨Tryz.f230.name, by decide, Tryz.func230.trans (congrArg some (by kernel_rfl))⟩
  f57 := ⟨Tryz.f233.name, by decide, Tryz.func233.trans (congrArg some (by kernel_rfl))⟩
  t0 := Tryz.underlying0
  a0 := Tryz.isAgg0
  z0 := Tryz.sizeOf0
  v0 := Tryz.zeroValue0
  t3 := Tryz.underlying3
  a3 := Tryz.isAgg3
  z3 := Tryz.sizeOf3
  v3 := Tryz.zeroValue3
  t4 := Tryz.underlying4
  a4 := Tryz.isAgg4
  z4 := Tryz.sizeOf4
  v4 := Tryz.zeroValue4
  t5 := Tryz.underlying5
  a5 := Tryz.isAgg5
  z5 := Tryz.sizeOf5
  v5 := Tryz.zeroValue5
  t9 := Tryz.underlying9
  a9 := Tryz.isAgg9
  z9 := Tryz.sizeOf9
  v9 := Tryz.zeroValue9
  t22 := Tryz.underlying87
  a22 := Tryz.isAgg87
  z22 := Tryz.sizeOf87
  v22 := Tryz.zeroValue87
  t25 := Tryz.underlying186
  a25 := Tryz.isAgg186
  z25 := Tryz.sizeOf186
  v25 := Tryz.zeroValue186
  t39 := Tryz.underlying136
  a39 := Tryz.isAgg136
  z39 := Tryz.sizeOf136
  v39 := Tryz.zeroValue136
  t45 := Tryz.underlying172
  a45 := Tryz.isAgg172
  z45 := Tryz.sizeOf172
  v45 := Tryz.zeroValue172
  t46 := Tryz.underlying173
  a46 := Tryz.isAgg173
  z46 := Tryz.sizeOf173
  v46 := Tryz.zeroValue173
  t50 := Tryz.underlying177
  a50 := Tryz.isAgg177
  z50 := Tryz.sizeOf177
  v50 := Tryz.zeroValue177
  t53 := Tryz.underlying81
  a53 := Tryz.isAgg81
  z53 := Tryz.sizeOf81
  v53 := Tryz.zeroValue81
  t55 := Tryz.underlying34
  a55 := Tryz.isAgg34
  z55 := Tryz.sizeOf34
  v55 := Tryz.zeroValue34
  t66 := Tryz.underlying206
  a66 := Tryz.isAgg206
  z66 := Tryz.sizeOf206
  v66 := Tryz.zeroValue206
  t70 := Tryz.underlying210
  a70 := Tryz.isAgg210
  z70 := Tryz.sizeOf210
  v70 := Tryz.zeroValue210
  t76 := Tryz.underlying222
  a76 := Tryz.isAgg222
  z76 := Tryz.sizeOf222
  v76 := Tryz.zeroValue222
  t77 := Tryz.underlying223
  a77 := Tryz.isAgg223
  z77 := Tryz.sizeOf223
  v77 := Tryz.zeroValue223 }
end Go.Proofs.YtmegmokjjlelgaaGreat
namespace Go.Proofs.YtmegmokjjlelgaaGreat
open Go.RowKit Go.Shelf Go.Sort
instance : Inhabited Ed := ⟨⟨⟨0, 0⟩, ⟨0, 0⟩⟩⟩
def cmpE (e f : Ed) : Int := orI (ordI e.a f.a) (ordI e.b f.b)
theorem ordI_neg' {a b : Pt} : ordI a b < 0 ↔ a.x < b.x ∨ (a.x = b.x ∧ a.y < b.y) := by
  unfold ordI orI
  rcases cmpI_cases a.x b.x with ⟨h, e⟩ | ⟨h, e⟩ | ⟨h, e⟩ <;> rcases cmpI_cases a.y b.y with ⟨h', e'⟩ | ⟨h', e'⟩ | ⟨h', e'⟩ <;> rw [e, e'] <;> simp <;> omega
theorem ordI_zero {a b : Pt} : ordI a b = 0 ↔ a.x = b.x ∧ a.y = b.y := by
  rw [ordI_eq]
  obtain ⟨ax, ay⟩ := a
  obtain ⟨bx, by_⟩ := b
  simp
theorem cmpE_neg {e f : Ed} : cmpE e f < 0 ↔ (e.a.x < f.a.x ∨ (e.a.x = f.a.x ∧ e.a.y < f.a.y)) ∨ ((e.a.x = f.a.x ∧ e.a.y = f.a.y) ∧ (e.b.x < f.b.x ∨ (e.b.x = f.b.x ∧ e.b.y < f.b.y))) := by
  rw [← ordI_neg', ← ordI_zero, ← ordI_neg' (a := e.b)]
  unfold cmpE orI
  by_cases h : ordI e.a f.a = 0
  · simp [h]
  · simp [h]
theorem edge_swo : SWO (ltOf cmpE) where
  irrefl x := by unfold ltOf; rw [decide_eq_false_iff_not, cmpE_neg]; omega
  trans x y z h1 h2 := by
    unfold ltOf at *
    rw [decide_eq_true_iff, cmpE_neg] at *
    omega
  ntrans x y z h1 h2 := by
    unfold ltOf at *
    rw [decide_eq_false_iff_not, cmpE_neg] at *
    omega
def encEL (e : Ed) : List Value := [.int .i64 e.a.x, .int .i64 e.a.y, .int .i64 e.b.x, .int .i64 e.b.y]
def edsV (l : List Ed) : List Value := l.flatMap encEL
theorem edsV_length (l : List Ed) : (edsV l).length = l.length * 4 := by
  induction l with
  | nil => rfl
  | cons e l ih => unfold edsV at *; rw [List.flatMap_cons, List.length_append, ih]; simp [encEL]; omega
theorem edsV_append (a b : List Ed) : edsV (a ++ b) = edsV a ++ edsV b := by simp [edsV]
theorem edsV_one (l : List Ed) : ∀ u ∈ edsV l, u.oneCell' = true := by
  intro u hu
  unfold edsV encEL at hu
  simp only [List.mem_flatMap] at hu
  obtain ⟨e, -, he⟩ := hu
  simp at he
  rcases he with rfl | rfl | rfl | rfl <;> rfl
theorem edsV_at {l : List Ed} {j : Nat} {u : Value} (h : (edsV l)[j]? = some u) : ∃ hk : j / 4 < l.length, u = (encEL l[j / 4])[j % 4]! := by
  induction l generalizing j with
  | nil => simp [edsV] at h
  | cons e l ih =>
    have hc : edsV (e :: l) = encEL e ++ edsV l := rfl
    rw [hc] at h
    by_cases hj : j < 4
    · rw [List.getElem?_append_left (by simp [encEL]; omega)] at h
      have h0 : j / 4 = 0 := by omega
      have h1 : j % 4 = j := by omega
      refine ⟨by simp [h0], ?_⟩
      simp only [h0, h1, List.getElem_cons_zero]
      rw [List.getElem!_eq_getElem?_getD, h]
      rfl
    · rw [List.getElem?_append_right (by simp [encEL]; omega)] at h
      have hl : (encEL e).length = 4 := rfl
      rw [hl] at h
      obtain ⟨hk, hu⟩ := ih h
      have e1 : j / 4 = (j - 4) / 4 + 1 := by omega
      have e2 : j % 4 = (j - 4) % 4 := by omega
      refine ⟨by simp; omega, ?_⟩
      simp only [e1, e2, List.getElem_cons_succ]
      exact hu
theorem holdsE_own {w : World} {base : Nat} {t : TypeId} {g n cap : Nat} {d : List Ed} (h : w.ownsRow base t 4 (.slice (some ⟨g, 0, none⟩) n cap) n (edsV d)) : HoldsK encEL 4 w g 0 d.toArray := fun j hj => by
  rw [size_flatK] at hj
  have hl : d.length * 4 = n * 4 := by rw [← edsV_length]; exact h.1
  have hj' : j < n * 4 := by simp at hj; omega
  refine ⟨?_, ?_⟩
  · rw [Nat.zero_add, h.cellAt j hj', get_flatK _ _ _ _ hj]
    have hl2 : j < (edsV d).length := by rw [h.1]; exact hj'
    obtain ⟨hk, hu⟩ := edsV_at (List.getElem?_eq_getElem hl2)
    rw [List.getElem?_eq_getElem hl2, hu]
    simp [hk]
  · rw [Nat.zero_add]
    exact h.frozenAt j
theorem reads_holdsE {w : World} {g : Nat} {d : List Ed} (hg : g < w.heap.size) (h : HoldsK encEL 4 w g 0 d.toArray) : Reads w w.heap.size 4 (some ⟨g, 0, none⟩) d.length (edsV d) := by
  refine ⟨edsV_length d, fun _ => ⟨_, rfl, hg, fun j u hu => ?_⟩⟩
  obtain ⟨hk, rfl⟩ := edsV_at hu
  rw [add_row]
  have := (h.cell (i := j / 4) (c := j % 4) (by simpa using hk) (by omega)).1
  rw [show 0 + j / 4 * 4 + j % 4 = j by omega] at this
  rw [this]
  simp [hk]
theorem grownBy_sortE {w : World} {g n : Nat} {os : Array Obj} (d : Array Ed) : w.grownBy (sortWorldK encEL 4 w g 0 n d os) (some g) := by
  refine ⟨rfl, rfl, rfl, by simp [sortWorldK, putRowK, grow, Sort.ahead], fun k hk hne => ?_⟩
  unfold sortWorldK
  rw [heap_grow_old _ _ (by simpa [putRowK, Sort.ahead] using hk)]
  have : g ≠ k := fun e => hne (by rw [e])
  simp [putRowK, putRow, mapBlock, Sort.ahead, Array.getElem?_modify, this]
theorem Grows.trans {a b c : World} (h : Grows a b) (k : Grows b c) : Grows a c := by
  obtain ⟨q, os, rfl⟩ := h
  obtain ⟨q', os', rfl⟩ := k
  refine ⟨q + q', os ++ os', ?_⟩
  rw [← grow_grow, ← World.drewN_drewN]
  rfl
theorem Grows.cell {a b : World} (h : Grows a b) {p : Addr} {v : Value} (hc : a.cell? p = some v) : b.cell? p = some v := by
  obtain ⟨q, os, rfl⟩ := h
  have hp : p.block < a.heap.size := World.block_lt_of_cell? a p hc
  rw [← hc]
  exact World.cell?_of_block (heap_grow_old _ _ hp)
set_option maxRecDepth 100000 in
set_option maxHeartbeats 1600000 in
theorem clean1_grows (e f : Ed) (w : World) :
    Calls Tryz.prog 157 #[.agg #[.int .i64 e.a.x, .int .i64 e.a.y, .int .i64 e.b.x, .int .i64 e.b.y], .agg #[.int .i64 f.a.x, .int .i64 f.a.y, .int .i64 f.b.x, .int .i64 f.b.y]] w fun r w' => r = .returned (.int .i64 (cmpE e f)) ∧ Grows w w' := by
  have b1 : Blk ((w.alloc (.cells #[.int .i64 e.a.x, .int .i64 e.a.y, .int .i64 e.b.x, .int .i64 e.b.y] 92)).alloc (.cells #[.int .i64 f.a.x, .int .i64 f.a.y, .int .i64 f.b.x, .int .i64 f.b.y] 92)) w.heap.size 92 #[.int .i64 e.a.x, .int .i64 e.a.y, .int .i64 e.b.x, .int .i64 e.b.y] := Blk.alloc (Blk.new w _ _) _
  have b2 := Blk.new (w.alloc (.cells #[.int .i64 e.a.x, .int .i64 e.a.y, .int .i64 e.b.x, .int .i64 e.b.y] 92)) 92 #[.int .i64 f.a.x, .int .i64 f.a.y, .int .i64 f.b.x, .int .i64 f.b.y]
  rw [World.size_alloc] at b2
  have hG : Grows w ((w.alloc (.cells #[.int .i64 e.a.x, .int .i64 e.a.y, .int .i64 e.b.x, .int .i64 e.b.y] 92)).alloc (.cells #[.int .i64 f.a.x, .int .i64 f.a.y, .int .i64 f.b.x, .int .i64 f.b.y] 92)) := ((Grows.refl _).alloc _).alloc _
  have kA := fun V => order_grows e.a f.a V
  have kB := fun V => order_grows e.b f.b V
  have HC : Hid (cmpE e f = orI (ordI e.a f.a) (ordI e.b f.b)) := rfl
  unfold ptV at kA kB
  generalize ordI e.a f.a = o1 at *
  generalize ordI e.b f.b = o2 at *
  go_enter Tryz.func157, Tryz.ntmps157
  go_wp2_with fail
  obtain ⟨W1, hW1⟩ : ∃ W1, W1 = (w.alloc (.cells #[.int .i64 e.a.x, .int .i64 e.a.y, .int .i64 e.b.x, .int .i64 e.b.y] 92)).alloc (.cells #[.int .i64 f.a.x, .int .i64 f.a.y, .int .i64 f.b.x, .int .i64 f.b.y] 92) := ⟨_, rfl⟩
  rw [← hW1] at b1 b2 hG
  rw [← hW1]
  clear hW1
  have hP0 : W1.drew.cell? ⟨w.heap.size, 0, none⟩ = some (.int .i64 e.a.x) ∧ W1.drew.cell? ⟨w.heap.size, 1, none⟩ = some (.int .i64 e.a.y) ∧ W1.drew.cell? ⟨w.heap.size, 2, none⟩ = some (.int .i64 e.b.x) ∧ W1.drew.cell? ⟨w.heap.size, 3, none⟩ = some (.int .i64 e.b.y) ∧ W1.drew.cell? ⟨w.heap.size + 1, 0, none⟩ = some (.int .i64 f.a.x) ∧ W1.drew.cell? ⟨w.heap.size + 1, 1, none⟩ = some (.int .i64 f.a.y) ∧ W1.drew.cell? ⟨w.heap.size + 1, 2, none⟩ = some (.int .i64 f.b.x) ∧ W1.drew.cell? ⟨w.heap.size + 1, 3, none⟩ = some (.int .i64 f.b.y) ∧ Grows W1 W1.drew := ⟨by rw [Blk.cell b1.drew 0]; rfl, by rw [Blk.cell b1.drew 1]; rfl, by rw [Blk.cell b1.drew 2]; rfl, by rw [Blk.cell b1.drew 3]; rfl, by rw [Blk.cell b2.drew 0]; rfl, by rw [Blk.cell b2.drew 1]; rfl, by rw [Blk.cell b2.drew 2]; rfl, by rw [Blk.cell b2.drew 3]; rfl, (Grows.refl _).drew⟩
  have hStep : ∀ V V', (V.cell? ⟨w.heap.size, 0, none⟩ = some (.int .i64 e.a.x) ∧ V.cell? ⟨w.heap.size, 1, none⟩ = some (.int .i64 e.a.y) ∧ V.cell? ⟨w.heap.size, 2, none⟩ = some (.int .i64 e.b.x) ∧ V.cell? ⟨w.heap.size, 3, none⟩ = some (.int .i64 e.b.y) ∧ V.cell? ⟨w.heap.size + 1, 0, none⟩ = some (.int .i64 f.a.x) ∧ V.cell? ⟨w.heap.size + 1, 1, none⟩ = some (.int .i64 f.a.y) ∧ V.cell? ⟨w.heap.size + 1, 2, none⟩ = some (.int .i64 f.b.x) ∧ V.cell? ⟨w.heap.size + 1, 3, none⟩ = some (.int .i64 f.b.y) ∧ Grows W1 V) → Grows V V' → (V'.cell? ⟨w.heap.size, 0, none⟩ = some (.int .i64 e.a.x) ∧ V'.cell? ⟨w.heap.size, 1, none⟩ = some (.int .i64 e.a.y) ∧ V'.cell? ⟨w.heap.size, 2, none⟩ = some (.int .i64 e.b.x) ∧ V'.cell? ⟨w.heap.size, 3, none⟩ = some (.int .i64 e.b.y) ∧ V'.cell? ⟨w.heap.size + 1, 0, none⟩ = some (.int .i64 f.a.x) ∧ V'.cell? ⟨w.heap.size + 1, 1, none⟩ = some (.int .i64 f.a.y) ∧ V'.cell? ⟨w.heap.size + 1, 2, none⟩ = some (.int .i64 f.b.x) ∧ V'.cell? ⟨w.heap.size + 1, 3, none⟩ = some (.int .i64 f.b.y) ∧ Grows W1 V') := fun V V' ⟨h1, h2, h3, h4, h5, h6, h7, h8, h9⟩ hb => ⟨hb.cell h1, hb.cell h2, hb.cell h3, hb.cell h4, hb.cell h5, hb.cell h6, hb.cell h7, hb.cell h8, h9.trans hb⟩
  have hStepA : ∀ V o, (V.cell? ⟨w.heap.size, 0, none⟩ = some (.int .i64 e.a.x) ∧ V.cell? ⟨w.heap.size, 1, none⟩ = some (.int .i64 e.a.y) ∧ V.cell? ⟨w.heap.size, 2, none⟩ = some (.int .i64 e.b.x) ∧ V.cell? ⟨w.heap.size, 3, none⟩ = some (.int .i64 e.b.y) ∧ V.cell? ⟨w.heap.size + 1, 0, none⟩ = some (.int .i64 f.a.x) ∧ V.cell? ⟨w.heap.size + 1, 1, none⟩ = some (.int .i64 f.a.y) ∧ V.cell? ⟨w.heap.size + 1, 2, none⟩ = some (.int .i64 f.b.x) ∧ V.cell? ⟨w.heap.size + 1, 3, none⟩ = some (.int .i64 f.b.y) ∧ Grows W1 V) → ((V.alloc o).cell? ⟨w.heap.size, 0, none⟩ = some (.int .i64 e.a.x) ∧ (V.alloc o).cell? ⟨w.heap.size, 1, none⟩ = some (.int .i64 e.a.y) ∧ (V.alloc o).cell? ⟨w.heap.size, 2, none⟩ = some (.int .i64 e.b.x) ∧ (V.alloc o).cell? ⟨w.heap.size, 3, none⟩ = some (.int .i64 e.b.y) ∧ (V.alloc o).cell? ⟨w.heap.size + 1, 0, none⟩ = some (.int .i64 f.a.x) ∧ (V.alloc o).cell? ⟨w.heap.size + 1, 1, none⟩ = some (.int .i64 f.a.y) ∧ (V.alloc o).cell? ⟨w.heap.size + 1, 2, none⟩ = some (.int .i64 f.b.x) ∧ (V.alloc o).cell? ⟨w.heap.size + 1, 3, none⟩ = some (.int .i64 f.b.y) ∧ Grows W1 (V.alloc o)) := fun V o h => hStep V _ h ((Grows.refl _).alloc o)
  have HLST := Lib.hid (show ∀ V, (V.cell? ⟨w.heap.size, 0, none⟩ = some (.int .i64 e.a.x) ∧ V.cell? ⟨w.heap.size, 1, none⟩ = some (.int .i64 e.a.y) ∧ V.cell? ⟨w.heap.size, 2, none⟩ = some (.int .i64 e.b.x) ∧ V.cell? ⟨w.heap.size, 3, none⟩ = some (.int .i64 e.b.y) ∧ V.cell? ⟨w.heap.size + 1, 0, none⟩ = some (.int .i64 f.a.x) ∧ V.cell? ⟨w.heap.size + 1, 1, none⟩ = some (.int .i64 f.a.y) ∧ V.cell? ⟨w.heap.size + 1, 2, none⟩ = some (.int .i64 f.b.x) ∧ V.cell? ⟨w.heap.size + 1, 3, none⟩ = some (.int .i64 f.b.y) ∧ Grows W1 V) → Grows W1 V from fun V h => h.2.2.2.2.2.2.2.2)
  have HG := Lib.hid hG
  clear b1 b2 hG
  go_region_held3 (fun V => V.cell? ⟨w.heap.size, 0, none⟩ = some (.int .i64 e.a.x) ∧ V.cell? ⟨w.heap.size, 1, none⟩ = some (.int .i64 e.a.y) ∧ V.cell? ⟨w.heap.size, 2, none⟩ = some (.int .i64 e.b.x) ∧ V.cell? ⟨w.heap.size, 3, none⟩ = some (.int .i64 e.b.y) ∧ V.cell? ⟨w.heap.size + 1, 0, none⟩ = some (.int .i64 f.a.x) ∧ V.cell? ⟨w.heap.size + 1, 1, none⟩ = some (.int .i64 f.a.y) ∧ V.cell? ⟨w.heap.size + 1, 2, none⟩ = some (.int .i64 f.b.x) ∧ V.cell? ⟨w.heap.size + 1, 3, none⟩ = some (.int .i64 f.b.y) ∧ Grows W1 V)
    (first | with_reducible exact hP0 | with_reducible assumption | with_reducible exact hStep _ _ (by assumption) (by assumption) | exact hStepA _ _ (by assumption))
    (first
      | (go_simp; go_at_call 110; (first | with_reducible refine (kA _).mono ?_ | with_reducible refine (kB _).mono ?_); rintro r w' ⟨rfl, hb'⟩; try dsimp only)
      | (go_simp; go_at_call 140; (refine (or_any o1 o2 _ 0 _ _ (by simp) (by simp)).mono ?_); rintro r w' ⟨rfl, rfl⟩; try dsimp only))
  all_goals
    clear hP0 hStep hStepA
    have hL := HLST.out _ (by assumption)
    go_wp2_with fail
    go_ret
    exact ⟨by rw [HC.out]; rfl, HG.out.trans (by assumption)⟩
theorem cmpE_lays (g size : Nat) (w : World) : CmpLays Tryz.prog 157 #[] encEL 4 cmpE g 0 size w := fun _ _ _ _ x y => clean1_grows x y _
theorem own_sortE {w : World} {base : Nat} {t : TypeId} {g n cap m : Nat} {d : List Ed} {d' : Array Ed} {os : Array Obj} (h : w.ownsRow base t 4 (.slice (some ⟨g, 0, none⟩) n cap) n (edsV d)) (hs : d'.size = n)
    (hR : Reads (sortWorldK encEL 4 w g 0 m d' os) (sortWorldK encEL 4 w g 0 m d' os).heap.size 4 (some ⟨g, 0, none⟩) d'.toList.length (edsV d'.toList)) :
    (sortWorldK encEL 4 w g 0 m d' os).ownsRow base t 4 (.slice (some ⟨g, 0, none⟩) n cap) n (edsV d'.toList) := by
  rcases h.2 with ⟨h0, -⟩ | ⟨g', cap', cur, he, hb, hg, hnc, hcm, hcs, htk⟩
  · cases h0
  · cases he
    have hlt : g < w.heap.size := (Array.getElem?_eq_some_iff.1 hg).1
    have hW : ∃ cur', (sortWorldK encEL 4 w g 0 m d' os).heap[g]? = some (.cells cur' t (0, 0)) ∧ cur'.size = cur.size := by
      refine ⟨putCells id 0 (flatK encEL 4 d') cur, ?_, ?_⟩
      · unfold sortWorldK
        rw [heap_grow_old _ _ (by simpa [putRowK, putRow, mapBlock, Sort.ahead] using hlt)]
        simp [putRowK, putRow, mapBlock, Sort.ahead, Array.getElem?_modify, hg, onCells]
      · simp [putCells]
    obtain ⟨cur', h1, h2⟩ := hW
    refine ⟨by rw [edsV_length]; simp [hs], .inr ⟨g, cap, cur', rfl, hb, h1, hnc, hcm, by rw [h2, hcs], ?_⟩⟩
    apply List.ext_getElem?
    intro j
    by_cases hj : j < n * 4
    · rw [List.getElem?_take, if_pos hj, Array.getElem?_toList, ← cell_of_row _ g j cur' t (0, 0) h1]
      obtain ⟨ad, e, -, hc⟩ := hR.2 (by simp; omega)
      cases e
      have hl : j < (edsV d'.toList).length := by rw [edsV_length]; simp [hs]; omega
      have := hc j _ (List.getElem?_eq_getElem hl)
      rw [add_row] at this
      rw [this, List.getElem?_eq_getElem hl]
    · rw [List.getElem?_eq_none (by simp; omega), List.getElem?_eq_none (by rw [edsV_length]; simp [hs]; omega)]
theorem perm_listE {d : List Ed} {d' : Array Ed} (h : PermIn 0 d.toArray.size d.toArray d') : d'.toList.Perm d ∧ d'.size = d.length := by
  obtain ⟨h1, -, h2⟩ := h
  refine ⟨?_, by simpa using h1⟩
  rw [← h1, Array.extract_size, h1, Array.extract_size] at h2
  simpa using h2
theorem sortEd_any (d : List Ed) (g n cap base : Nat) (w : World) (hown : w.ownsRow base 92 4 (.slice (some ⟨g, 0, none⟩) n cap) n (edsV d)) (hn : n ≤ 1048576) :
    Calls Tryz.prog 156 #[.slice (some ⟨g, 0, none⟩) n cap, .func (.func 157) #[] #[]] w fun e w' => e = .returned (.tuple #[]) ∧ ∃ d' : List Ed, d'.Perm d ∧ d'.Pairwise (fun e f => ¬ cmpE f e < 0) ∧ w'.ownsRow base 92 4 (.slice (some ⟨g, 0, none⟩) n cap) n (edsV d') ∧ w.grownBy w' (some g) := by
  have hl : d.length = n := by have h := hown.1; rw [edsV_length] at h; omega
  have hg : g < w.heap.size := (hown.lt g rfl).2
  have hH := holdsE_own hown
  have eg : ∀ args w, (callFunc 157 args).run Tryz.prog w = .ok (.enter 157 args) w := enters_of Tryz.func157 (by kernel_rfl) rfl
  have hcon := AnyQ.slices_SortFunc sortEd 4 Tryz.isAgg92 Tryz.sizeOf92 encEL (fun _ => rfl) (fun x v hv => by simp [encEL] at hv; rcases hv with rfl | rfl | rfl | rfl <;> rfl) cmpE edge_swo 157 #[] g 0 cap d.toArray w eg (cmpE_lays g d.toArray.size w) hH hg (by simp; omega)
  change Calls Tryz.prog 156 _ _ _ at hcon
  rw [List.size_toArray, hl] at hcon
  refine hcon.mono ?_
  rintro e w' ⟨he, d', m, os, hp, hsd, rfl⟩
  rw [← hl, ← List.size_toArray] at hp hsd
  obtain ⟨h1, h2⟩ := perm_listE hp
  have hSW : SWK encEL 4 w g 0 d' (sortWorldK encEL 4 w g 0 m d' os) := ⟨m, os, rfl⟩
  have hH' := hSW.holds hg hH (by simpa using h2)
  have hR := reads_holdsE (d := d'.toList) (hSW.lt hg) (by simpa using hH')
  refine ⟨he, d'.toList, h1, ?_, ?_, grownBy_sortE d'⟩
  · rw [List.pairwise_iff_getElem]
    intro i j hi hj hij
    have := hsd i j (Nat.zero_le _) hij (by simpa [h2] using hj)
    unfold ltOf at this
    rw [decide_eq_false_iff_not] at this
    rw [getElem!_pos d' j (by simpa using hj), getElem!_pos d' i (by simpa using hi)] at this
    simpa using this
  · have := own_sortE (m := m) (os := os) hown (by rw [h2, hl]) hR
    exact this
end Go.Proofs.YtmegmokjjlelgaaGreat
namespace Go.Proofs.YtmegmokjjlelgaaGreat
open Go.RowKit
theorem planE_b0 {p : Plan} (h : planB p = false) : planE p = 2 := by unfold planE; rw [h]; rfl
theorem planE_b1 {p : Plan} (h : planB p = true) : planE p = 0 := by unfold planE; rw [h]; rfl
theorem planB_sound {p : Plan} (h : planB p = true) : SoundP p := by unfold planB at h; simpa using h
end Go.Proofs.YtmegmokjjlelgaaGreat
namespace Go.Proofs.YtmegmokjjlelgaaGreat
open Go.RowKit Go.Shelf
theorem within_any (xs : List Pt) (p : Pt) (A : Option Addr) (n cap : Nat) (w : World) (hr : Reads w w.heap.size 2 A n (ptsV xs)) (hn : n ≤ 128) (hg : goodL xs = true) (hp : good p = true) :
    Calls Tryz.prog 101 #[.slice A n cap, .agg #[.int .i64 p.x, .int .i64 p.y]] w fun e w' => e = .returned (.int .i64 (sideI xs p)) ∧ Below w.heap.size w w' := by
  have hb0 := (Below.refl w.heap.size w).alloc (Nat.le_refl _) (.cells #[.int .i64 p.x, .int .i64 p.y] 44)
  have hk : Calls Tryz.prog 137 #[.slice A n cap, .agg #[.int .i64 p.x, .int .i64 p.y]] (w.alloc (.cells #[.int .i64 p.x, .int .i64 p.y] 44)) fun e w' => e = .returned (.int .i64 (sideI xs p)) ∧ Below (w.alloc (.cells #[.int .i64 p.x, .int .i64 p.y] 44)).heap.size (w.alloc (.cells #[.int .i64 p.x, .int .i64 p.y] 44)) w' := side_any xs p A n cap _ ((hr.below hb0).more hb0.size) hn hg hp
  generalize sideI xs p = z at *
  have HK := Lib.hid (And.intro hk hb0)
  clear hk hb0 hr hg hp
  go_enter Tryz.func101, Tryz.ntmps101
  go_wp2_with fail
  with_reducible refine HK.out.1.mono ?_
  rintro e w1 ⟨rfl, hb1⟩
  have hB1 := below_on HK.out.2 (Nat.le_refl _) hb1
  clear hb1 HK
  go_wp2_with fail
  go_ret
  exact ⟨rfl, hB1⟩
end Go.Proofs.YtmegmokjjlelgaaGreat

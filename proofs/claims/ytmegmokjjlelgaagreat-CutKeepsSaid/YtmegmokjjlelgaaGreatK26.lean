/- cut.fault: the model. (The walk is not begun.); Plain law: two stretches with a point within both have more in common than one end. Rotations of a ring without repetition; bend.begin, bend.done, bend.Mark: the walks; cut.fault: the walk; A corner that is put into a ring: plain law. -/
import Derived.Deep.CutBlock
import Derived.Deep.DeepCutAuto
import Derived.Test.YtmegmokjjlelgaaGreatK02
import Derived.Test.YtmegmokjjlelgaaGreatK10
import Derived.Test.YtmegmokjjlelgaaGreatK12
import Derived.Test.YtmegmokjjlelgaaGreatK14
import Derived.Test.YtmegmokjjlelgaaGreatK15
import Derived.Test.YtmegmokjjlelgaaGreatK16
import Derived.Test.YtmegmokjjlelgaaGreatK17
import Derived.Test.YtmegmokjjlelgaaGreatK20
import Derived.Test.YtmegmokjjlelgaaGreatK21
import Derived.Test.YtmegmokjjlelgaaGreatK23
import Derived.Test.YtmegmokjjlelgaaGreatK25
namespace Go.Proofs.YtmegmokjjlelgaaGreat
/-- The error of what is asked of a cut. -/
noncomputable def faultI (p : Plan) (id : Int) (path : List Pt) (fresh : Int) : Int :=
  if planB p = false then 2 else if atP p.parcels id < 0 then 5 else if idB fresh = false ∨ path.length < 2 ∨ 128 < path.length then 1 else if 0 ≤ atP p.parcels fresh then 6 else if goodL path = false then 3 else
  if ptAt path 0 = ptAt path (path.length - 1) ∨ sideI (pcAt p.parcels (atP p.parcels id).toNat).ring (ptAt path 0) ≠ 0 ∨ sideI (pcAt p.parcels (atP p.parcels id).toNat).ring (ptAt path (path.length - 1)) ≠ 0 then 7 else 0
theorem faultI_zero {p : Plan} {id fresh : Int} {path : List Pt} (h : faultI p id path fresh = 0) : SoundP p ∧ (∃ k : Nat, k < p.parcels.length ∧ atP p.parcels id = (k : Int) ∧ (pcAt p.parcels k).id = id ∧ sideI (pcAt p.parcels k).ring (ptAt path 0) = 0 ∧ sideI (pcAt p.parcels k).ring (ptAt path (path.length - 1)) = 0) ∧ idB fresh = true ∧ 2 ≤ path.length ∧ path.length ≤ 128 ∧ atP p.parcels fresh < 0 ∧ goodL path = true ∧ ptAt path 0 ≠ ptAt path (path.length - 1) := by
  unfold faultI at h
  split at h
  · cases h
  rename_i h1
  split at h
  · cases h
  rename_i h2
  split at h
  · cases h
  rename_i h3
  split at h
  · cases h
  rename_i h4
  split at h
  · cases h
  rename_i h5
  split at h
  · cases h
  rename_i h6
  rcases atP_cases p.parcels id with ⟨e, -⟩ | ⟨k, hk, e, hid⟩
  · omega
  rw [e, Int.toNat_natCast] at h6
  have hs : SoundP p := by
    have : planB p = true := by simpa using h1
    unfold planB at this
    simpa using this
  have hf : idB fresh = true := Classical.byContradiction fun hn => h3 (.inl (by simpa using hn))
  have ha : ¬ path.length < 2 := fun hn => h3 (.inr (.inl hn))
  have hb : ¬ 128 < path.length := fun hn => h3 (.inr (.inr hn))
  refine ⟨hs, ⟨k, hk, e, hid, ?_, ?_⟩, hf, by omega, by omega, by omega, by simpa using h5, fun hn => h6 (.inl hn)⟩
  · exact Classical.byContradiction fun hn => h6 (.inr (.inl hn))
  · exact Classical.byContradiction fun hn => h6 (.inr (.inr hn))
end Go.Proofs.YtmegmokjjlelgaaGreat
namespace Go.Proofs.YtmegmokjjlelgaaGreat
theorem par0 {ux uy vx vy wx wy : Int} (h1 : ux * vy - uy * vx = 0) (h2 : vx * wy - vy * wx = 0) (hv : vx ≠ 0 ∨ vy ≠ 0) : ux * wy - uy * wx = 0 := by
  rcases hv with h | h
  · have e : vx * (ux * wy - uy * wx) = ux * (vx * wy - vy * wx) + wx * (ux * vy - uy * vx) := by grind
    rw [h1, h2] at e
    rcases Int.mul_eq_zero.1 (e.trans (by simp)) with h3 | h3
    · exact absurd h3 h
    · exact h3
  · have e : vy * (ux * wy - uy * wx) = uy * (vx * wy - vy * wx) + wy * (ux * vy - uy * vx) := by grind
    rw [h1, h2] at e
    rcases Int.mul_eq_zero.1 (e.trans (by simp)) with h3 | h3
    · exact absurd h3 h
    · exact h3
theorem pt_sub_ne {p q : Pt} (h : p ≠ q) : p.x - q.x ≠ 0 ∨ p.y - q.y ≠ 0 := by
  by_cases hx : p.x = q.x
  · by_cases hy : p.y = q.y
    · exact absurd (by obtain ⟨a, b⟩ := p; obtain ⟨c, d⟩ := q; simp at hx hy; rw [hx, hy]) h
    · exact .inr (by omega)
  · exact .inl (by omega)
/-- Two points of two straight lines: all four ends lie on one. -/
theorem line_of {a b c d e q : Pt} (hcd : c ≠ d) (heq : e ≠ q) (h1 : cr a b e = 0) (h2 : cr a b q = 0) (h3 : cr c d e = 0) (h4 : cr c d q = 0) : cr a b c = 0 ∧ cr a b d = 0 := by
  unfold cr at *
  have k1 : (b.x - a.x) * (e.y - q.y) - (b.y - a.y) * (e.x - q.x) = 0 := by grind
  have k2 : (e.x - q.x) * (d.y - c.y) - (e.y - q.y) * (d.x - c.x) = 0 := by grind
  have k3 := par0 k1 k2 (pt_sub_ne heq)
  have k4 : (d.x - c.x) * (q.y - c.y) - (d.y - c.y) * (q.x - c.x) = 0 := h4
  have k5 := par0 k3 k4 (pt_sub_ne (Ne.symm hcd))
  have k6 : (d.x - c.x) * (q.y - d.y) - (d.y - c.y) * (q.x - d.x) = 0 := by grind
  have k7 := par0 k3 k6 (pt_sub_ne (Ne.symm hcd))
  exact ⟨by grind, by grind⟩
/-- A point within a stretch: on it, and neither of its ends. -/
def inS (a b q : Pt) : Prop := onB a b q = true ∧ q ≠ a ∧ q ≠ b
theorem inS_ne {a b q : Pt} (h : inS a b q) : a ≠ b := fun e => by
  subst e
  have h1 := (onB_iff a a q).1 h.1
  apply h.2.1
  obtain ⟨x, y⟩ := q
  obtain ⟨u, v⟩ := a
  simp only [Pt.mk.injEq]
  simp only at h1
  omega
theorem key_lt_or {p q : Pt} (hp : good p = true) (hq : good q = true) (h : p ≠ q) : key p < key q ∨ key q < key p := by
  rcases key_ord hp hq with h1 | h1 | h1
  · exact .inl h1.1
  · exact .inr h1.1
  · exact absurd h1.1 h
theorem inS_touch {a b c d q : Pt} (ha : good a = true) (hb : good b = true) (hc : good c = true) (hd : good d = true) (h1 : inS a b q) (h2 : inS c d q) : meetR a b c d ≠ 0 := fun h => by
  apply (meet_zero (a := a) (b := b) (c := c) (d := d)).1 h
  obtain ⟨N, t, n1, n2, n3, n4, n5⟩ := on_param h1.1
  obtain ⟨M, s, m1, m2, m3, m4, m5⟩ := on_param h2.1
  have hs : 0 ≤ M - s := by omega
  have ht : 0 ≤ N - t := by omega
  have ht2 := Int.mul_le_mul_of_nonneg_right n3 (Int.le_of_lt m1)
  refine touch_of_com (N := N * M) (t := t * M) (A := N * (M - s)) (B := N * s) ha hb hc hd ⟨Int.mul_pos n1 m1, Int.mul_nonneg n2 (Int.le_of_lt m1), ht2, Int.mul_nonneg (Int.le_of_lt n1) hs, Int.mul_nonneg (Int.le_of_lt n1) m2, ?_, ?_, ?_⟩
  · grind
  · have e1 : (N * M - t * M) * a.x + t * M * b.x = M * ((N - t) * a.x + t * b.x) := by grind
    have e2 : N * (M - s) * c.x + N * s * d.x = N * ((M - s) * c.x + s * d.x) := by grind
    rw [e1, e2, n4, m4]
    grind
  · have e1 : (N * M - t * M) * a.y + t * M * b.y = M * ((N - t) * a.y + t * b.y) := by grind
    have e2 : N * (M - s) * c.y + N * s * d.y = N * ((M - s) * c.y + s * d.y) := by grind
    rw [e1, e2, n5, m5]
    grind
theorem inS_one {a b c d q : Pt} (ha : good a = true) (hb : good b = true) (hc : good c = true) (hd : good d = true) (hq : good q = true) (h1 : inS a b q) (h2 : inS c d q) : meetR a b c d ≠ 1 := fun h => by
  unfold meetR at h
  have hnd : ¬ difB (endsL a b c d) = true := fun hd' => by rw [if_pos hd'] at h; cases h
  rw [if_neg hnd] at h
  have hne : endsL a b c d ≠ [] := fun hn => by
    rw [if_neg (fun h' => h' hn)] at h
    split at h <;> cases h
  obtain ⟨e, he⟩ := List.exists_mem_of_ne_nil _ hne
  have hab := inS_ne h1
  have hcd := inS_ne h2
  have hends : ∀ x, x ∈ endsL a b c d ↔ (x = a ∧ onB c d a = true) ∨ (x = b ∧ onB c d b = true) ∨ (x = c ∧ onB a b c = true) ∨ (x = d ∧ onB a b d = true) := fun x => by
    unfold endsL
    rcases onB c d a with _ | _ <;> rcases onB c d b with _ | _ <;> rcases onB a b c with _ | _ <;> rcases onB a b d with _ | _ <;> simp
  have heq : e ≠ q := fun e' => by
    rw [e'] at he
    rcases (hends q).1 he with ⟨h', -⟩ | ⟨h', -⟩ | ⟨h', -⟩ | ⟨h', -⟩
    · exact h1.2.1 h'
    · exact h1.2.2 h'
    · exact h2.2.1 h'
    · exact h2.2.2 h'
  obtain ⟨o1, o2⟩ := endsL_mem he
  have z1 := ((onB_iff a b e).1 o1).1
  have z2 := ((onB_iff a b q).1 h1.1).1
  have z3 := ((onB_iff c d e).1 o2).1
  have z4 := ((onB_iff c d q).1 h2.1).1
  obtain ⟨l1, l2⟩ := line_of hcd heq z1 z2 z3 z4
  obtain ⟨l3, l4⟩ := line_of hab heq z3 z4 z1 z2
  have k1 := ((onB_key ha hb hq).1 h1.1).2
  have k2 := ((onB_key hc hd hq).1 h2.1).2
  have s1 := key_lt_or hq ha h1.2.1
  have s2 := key_lt_or hq hb h1.2.2
  have s3 := key_lt_or hq hc h2.2.1
  have s4 := key_lt_or hq hd h2.2.2
  apply hnd
  rw [difB_iff]
  have hA : (key c ≤ key a ∧ key a ≤ key d) ∨ (key d ≤ key a ∧ key a ≤ key c) → a ∈ endsL a b c d := fun h' => (hends a).2 (.inl ⟨rfl, (onB_key hc hd ha).2 ⟨l3, h'⟩⟩)
  have hB : (key c ≤ key b ∧ key b ≤ key d) ∨ (key d ≤ key b ∧ key b ≤ key c) → b ∈ endsL a b c d := fun h' => (hends b).2 (.inr (.inl ⟨rfl, (onB_key hc hd hb).2 ⟨l4, h'⟩⟩))
  have hC : (key a ≤ key c ∧ key c ≤ key b) ∨ (key b ≤ key c ∧ key c ≤ key a) → c ∈ endsL a b c d := fun h' => (hends c).2 (.inr (.inr (.inl ⟨rfl, (onB_key ha hb hc).2 ⟨l1, h'⟩⟩)))
  have hD : (key a ≤ key d ∧ key d ≤ key b) ∨ (key b ≤ key d ∧ key d ≤ key a) → d ∈ endsL a b c d := fun h' => (hends d).2 (.inr (.inr (.inr ⟨rfl, (onB_key ha hb hd).2 ⟨l2, h'⟩⟩)))
  have lo : ∃ x, x ∈ endsL a b c d ∧ key x < key q := by
    by_cases g1 : key a < key q <;> by_cases g2 : key c < key q <;> by_cases g3 : key a ≤ key c <;> by_cases g4 : key a ≤ key d <;> by_cases g5 : key b ≤ key c <;> by_cases g6 : key b ≤ key d <;>
      first
      | exact ⟨a, hA (by omega), by omega⟩
      | exact ⟨b, hB (by omega), by omega⟩
      | exact ⟨c, hC (by omega), by omega⟩
      | exact ⟨d, hD (by omega), by omega⟩
  have hi : ∃ x, x ∈ endsL a b c d ∧ key q < key x := by
    by_cases g1 : key a < key q <;> by_cases g2 : key c < key q <;> by_cases g3 : key a ≤ key c <;> by_cases g4 : key a ≤ key d <;> by_cases g5 : key b ≤ key c <;> by_cases g6 : key b ≤ key d <;>
      first
      | exact ⟨a, hA (by omega), by omega⟩
      | exact ⟨b, hB (by omega), by omega⟩
      | exact ⟨c, hC (by omega), by omega⟩
      | exact ⟨d, hD (by omega), by omega⟩
  obtain ⟨x, hx, hxq⟩ := lo
  obtain ⟨y, hy, hyq⟩ := hi
  exact ⟨x, y, hx, hy, fun e => by rw [e] at hxq; omega⟩
-- rotations
theorem lst_eq_rot (xs : List Pt) : ∃ j, (xs ≠ [] → j < xs.length) ∧ lst xs = rot j xs := by
  refine ⟨leastN xs xs.length, fun h => leastN_lt xs (List.length_pos_iff.2 h), rfl⟩
-- sound plans
theorem mem_lst {xs : List Pt} {p : Pt} : p ∈ lst xs ↔ p ∈ xs := by
  refine ⟨lst_mem, fun h => ?_⟩
  obtain ⟨j, -, e⟩ := lst_eq_rot xs
  rw [e]
  unfold rot
  rw [← List.take_append_drop j xs] at h
  rw [List.mem_append] at h ⊢
  exact h.symm
theorem each_sound {g : List Pt → List Pt} {p : Plan} {y : Parc} (hy : y ∈ (eachP g p).parcels) : ∃ x ∈ p.parcels, y = eachX g x := by
  obtain ⟨x, hx, e⟩ := List.mem_map.1 hy
  exact ⟨x, hx, e.symm⟩
end Go.Proofs.YtmegmokjjlelgaaGreat
namespace Go.Proofs.YtmegmokjjlelgaaGreat
open Go.RowKit Go.Lib
theorem res_store {w W : World} {g : Nat} {a b : Value} (hb : Below w.heap.size w W) (hg : w.heap.size ≤ g) (hk : Blk W g 26 #[a, b]) (u v : Value) :
    ∃ V, V = (W.setCell ⟨g, 0, none⟩ u).setCell ⟨g, 1, none⟩ v ∧ V.cell? ⟨g, 0, none⟩ = some u ∧ V.cell? ⟨g, 1, none⟩ = some v ∧ Below w.heap.size w V := by
  have hK := Blk.set_ (Blk.set_ hk 0 u) 1 v
  exact ⟨_, rfl, by rw [Blk.cell hK 0]; rfl, by rw [Blk.cell hK 1]; rfl, (hb.setCell (p := ⟨g, 0, none⟩) hg u).setCell (p := ⟨g, 1, none⟩) hg v⟩
theorem plk_facts4 {W : World} {g : Nat} {a b : Value} (hk : Blk W g 26 #[a, b]) : W.cell? ⟨g, 0, none⟩ = some a ∧ W.cell? ⟨g, 1, none⟩ = some b ∧ W.frozen? ⟨g, 0, none⟩ = false ∧ W.frozen? ⟨g, 1, none⟩ = false := ⟨Blk.cell hk 0, Blk.cell hk 1, Blk.frozen hk 0, Blk.frozen hk 1⟩
def ResPostS (r : Plan) (z : Int) (w : World) (e : Ending) (w' : World) : Prop := ∃ A n c A' n' c' hs, e = .returned (.tuple #[planV A n c A' n' c', .int .i64 z]) ∧ PlanOwn w.heap.size w' A n c A' n' c' r hs ∧ Below w.heap.size w w'
theorem planOwn_nil (B : Nat) (W : World) : PlanOwn B W none 0 0 none 0 0 ⟨[], []⟩ [] := ⟨World.ownsRow_nil _ _ _ _, World.ownsRow_nil _ _ _ _, rfl, rfl, fun j hj => absurd hj (Nat.not_lt_zero _), ⟨⟨by simp, by simp⟩, by simp, by simp⟩⟩
theorem resPostS_no {w V : World} {z : Int} {r : Plan} (hr : r = ⟨[], []⟩) (hb : Below w.heap.size w V) : ResPostS r z w (.returned (.tuple #[planV none 0 0 none 0 0, .int .i64 z])) V := ⟨none, 0, 0, none, 0, 0, [], rfl, by rw [hr]; exact planOwn_nil _ V, hb⟩
-- MARK
end Go.Proofs.YtmegmokjjlelgaaGreat
namespace Go.Proofs.YtmegmokjjlelgaaGreat
open Go.RowKit Go.Lib
def TwoB (W V : World) (x y : Value) (a b : Pt) : Prop := ∃ g1 g2, x = .pointer (some ⟨g1, 0, none⟩) ∧ y = .pointer (some ⟨g2, 0, none⟩) ∧ PtK V g1 a ∧ PtK V g2 b ∧ Below W.heap.size W V
theorem twoB_1 {W : World} {a b : Pt} : TwoB W ((W.alloc (.cells #[.int .i64 a.x, .int .i64 a.y] 44)).alloc (.cells #[.int .i64 b.x, .int .i64 b.y] 44)).drew (.pointer (some ⟨W.heap.size, 0, none⟩)) (.pointer (some ⟨W.heap.size + 1, 0, none⟩)) a b := by
  refine ⟨_, _, rfl, rfl, Blk.drew (Blk.alloc (PtK.new W a) _), ?_, (((Below.refl W.heap.size W).alloc (Nat.le_refl _) _).alloc (by simp) _).drew⟩
  have := PtK.new (W.alloc (.cells #[.int .i64 a.x, .int .i64 a.y] 44)) b
  rw [World.size_alloc] at this
  exact Blk.drew this
theorem twoB_2 {W : World} {a b : Pt} : TwoB W ((W.alloc (.cells #[.int .i64 b.x, .int .i64 b.y] 44)).alloc (.cells #[.int .i64 a.x, .int .i64 a.y] 44)).drew (.pointer (some ⟨W.heap.size + 1, 0, none⟩)) (.pointer (some ⟨W.heap.size, 0, none⟩)) a b := by
  obtain ⟨g1, g2, h1, h2, k1, k2, hb⟩ := twoB_1 (W := W) (a := b) (b := a)
  exact ⟨g2, g1, h2, h1, k2, k1, hb⟩
def FtF (p : Plan) (path : List Pt) (A : Option Addr) (n c : Nat) (A' : Option Addr) (n' c' : Nat) (B : Option Addr) (m : Nat) (w W : World) : Prop := Below w.heap.size w W ∧ PlK W w.heap.size A n c A' n' c' ∧ PlanAt W W.heap.size A n c A' n' c' p ∧ Reads W W.heap.size 2 B m (ptsV path)
theorem FtF.on {p : Plan} {path : List Pt} {A A' B : Option Addr} {n c n' c' m : Nat} {w W W' : World} (h : FtF p path A n c A' n' c' B m w W) (hb : Below W.heap.size W W') : FtF p path A n c A' n' c' B m w W' :=
  ⟨below_on h.1 (Nat.le_refl _) hb, h.2.1.on hb, h.2.2.1.on hb, h.2.2.2.on hb⟩
theorem fault_2 {p : Plan} {id fresh : Int} {path : List Pt} (h : planB p = false) : faultI p id path fresh = 2 := by unfold faultI; rw [if_pos h]
theorem fault_5 {p : Plan} {id fresh : Int} {path : List Pt} (h : planB p = true) (h1 : atP p.parcels id < 0) : faultI p id path fresh = 5 := by unfold faultI; rw [if_neg (by rw [h]; decide), if_pos h1]
theorem fault_rest {p : Plan} {id fresh : Int} {path : List Pt} (h : planB p = true) (h1 : ¬ atP p.parcels id < 0) : faultI p id path fresh = if idB fresh = false ∨ path.length < 2 ∨ 128 < path.length then 1 else if 0 ≤ atP p.parcels fresh then 6 else if goodL path = false then 3 else
  if ptAt path 0 = ptAt path (path.length - 1) ∨ sideI (pcAt p.parcels (atP p.parcels id).toNat).ring (ptAt path 0) ≠ 0 ∨ sideI (pcAt p.parcels (atP p.parcels id).toNat).ring (ptAt path (path.length - 1)) ≠ 0 then 7 else 0 := by unfold faultI; rw [if_neg (by rw [h]; decide), if_neg h1]
theorem hldF {W V V' : World} {a0 a1 a2 a3 : Addr} {v0 v1 v2 v3 : Value} (hh : a0.block < W.heap.size ∧ a1.block < W.heap.size ∧ a2.block < W.heap.size ∧ a3.block < W.heap.size) (hs : V.cell? a0 = some v0 ∧ V.cell? a1 = some v1 ∧ V.cell? a2 = some v2 ∧ V.cell? a3 = some v3 ∧ Below W.heap.size W V) (hb : Below V.heap.size V V') :
    V'.cell? a0 = some v0 ∧ V'.cell? a1 = some v1 ∧ V'.cell? a2 = some v2 ∧ V'.cell? a3 = some v3 ∧ Below W.heap.size W V' := by
  obtain ⟨h0, h1, h2, h3⟩ := hh
  obtain ⟨c0, c1, c2, c3, cb⟩ := hs
  have := cb.size
  have k : ∀ {a : Addr} {v : Value}, a.block < W.heap.size → V.cell? a = some v → V'.cell? a = some v := fun {a v} ha hv => (hb.cell (p := a) (by omega)).trans hv
  exact ⟨k h0 c0, k h1 c1, k h2 c2, k h3 c3, below_on cb (Nat.le_refl _) hb⟩
set_option maxRecDepth 100000 in
set_option maxHeartbeats 6400000 in
theorem fault_any (p : Plan) (id fresh : Int) (path : List Pt) (A A' B : Option Addr) (n c n' c' m cb : Nat) (w : World) (h : PlanAt w w.heap.size A n c A' n' c' p) (hr : Reads w w.heap.size 2 B m (ptsV path)) (hx : ∀ q ∈ path, q.inI) (hm : m ≤ 8796093022208) :
    Calls Tryz.prog 59 #[planV A n c A' n' c', .int .i64 id, .slice B m cb, .int .i64 fresh] w fun e w' => e = .returned (.int .i64 (faultI p id path fresh)) ∧ Below w.heap.size w w' := by
  obtain ⟨wa, hwa⟩ : ∃ wa : World, wa = w.alloc (.cells #[.slice A n c, .slice A' n' c'] 26) := ⟨_, rfl⟩
  have hF : FtF p path A n c A' n' c' B m w wa := by
    have hB0 : Below w.heap.size w wa := by rw [hwa]; exact (Below.refl _ _).alloc (Nat.le_refl _) _
    exact ⟨hB0, by rw [hwa]; exact PlK.new w A n c A' n' c', h.on hB0, hr.on hB0⟩
  have hl := hr.lenPt
  have H0 := Lib.hid hF
  have HX := Lib.hid (And.intro hl hx)
  have KA := Lib.hid (at_any p id A A' n c n' c' wa hF.2.2.1)
  obtain ⟨q1, q2, q3⟩ := hF.2.1.facts
  clear hF h hr hl hx
  go_enter Tryz.func59, Tryz.ntmps59
  go_upto_region 1 with fail
  rw [← hwa]
  clear hwa
  go_wp2_with fail
  refine KA.out.mono ?_
  rintro e w1 ⟨rfl, hb1⟩
  have H1 := Lib.hid (H0.out.on hb1)
  obtain ⟨z, hz⟩ : ∃ z, z = atP p.parcels id := ⟨_, rfl⟩
  rw [← hz]
  have HZ := Lib.hid hz
  have kC := checkPl_any p A A' n c n' c' w1 H1.out.2.2.1
  clear hb1 H0 KA q1 q2 q3 hz
  obtain ⟨q1, q2, q3⟩ := H1.out.2.1.facts
  rcases hpb : planB p with _ | _
  · have hme := fault_2 (id := id) (fresh := fresh) (path := path) hpb
    have HM := Lib.hid hme
    rw [planE_b0 hpb] at kC
    have KC := Lib.hid kC
    clear kC hme hpb
    go_wp2_with fail
    refine KC.out.mono ?_
    rintro e w2 ⟨rfl, hb2⟩
    have HB := Lib.hid (H1.out.on hb2).1
    clear hb2 H1 KC q1 q2 q3
    go_wp2_with fail
    go_ret
    exact ⟨by rw [HM.out]; rfl, HB.out⟩
  rw [planE_b1 hpb] at kC
  have KC := Lib.hid kC
  have HS := Lib.hid (planB_sound hpb)
  have HPB := Lib.hid hpb
  clear kC hpb
  by_cases hz0 : z < 0
  · have HM := Lib.hid (fault_5 (id := id) (fresh := fresh) (path := path) HPB.out (by rw [← HZ.out]; exact hz0))
    go_wp2_with fail
    refine KC.out.mono ?_
    rintro e w2 ⟨rfl, hb2⟩
    have HB := Lib.hid (H1.out.on hb2).1
    clear hb2 H1 KC q1 q2 q3
    go_wp2_with fail
    go_ret
    exact ⟨by rw [HM.out]; rfl, HB.out⟩
  obtain ⟨k, hk, rfl⟩ : ∃ k : Nat, k < p.parcels.length ∧ z = (k : Int) := by
    rcases atP_cases p.parcels id with ⟨e, -⟩ | ⟨k, hk, e, -⟩
    · have := HZ.out; omega
    · exact ⟨k, hk, HZ.out.trans e⟩
  have hE := fault_rest (id := id) (fresh := fresh) (path := path) HPB.out (by rw [← HZ.out]; exact hz0)
  rw [← HZ.out, Int.toNat_natCast, HX.out.1] at hE
  have HE := Lib.hid hE
  have HK := Lib.hid hk
  clear hE hk
  have hE1 : (idB fresh = false ∨ m < 2 ∨ 128 < m) → faultI p id path fresh = 1 := fun h => by rw [HE.out, if_pos h]
  have hE2 : ¬ (idB fresh = false ∨ m < 2 ∨ 128 < m) → faultI p id path fresh = if 0 ≤ atP p.parcels fresh then 6 else if goodL path = false then 3 else if ptAt path 0 = ptAt path (m - 1) ∨ sideI (pcAt p.parcels k).ring (ptAt path 0) ≠ 0 ∨ sideI (pcAt p.parcels k).ring (ptAt path (m - 1)) ≠ 0 then 7 else 0 := fun h => by rw [HE.out, if_neg h]
  go_upto_region 2 with fail
  go_wp2_with fail
  refine KC.out.mono ?_
  rintro e w2 ⟨rfl, hb2⟩
  have H2 := Lib.hid (H1.out.on hb2)
  clear hb2 H1 KC q1 q2 q3 HE
  have kI := fun V => idP_any fresh V
  obtain ⟨bi, hbi⟩ : ∃ b, b = idB fresh := ⟨_, rfl⟩
  rw [← hbi] at kI hE1 hE2
  have HB2 := Lib.hid H2.out.1
  rcases bi with _ | _
  · have HM := Lib.hid (hE1 (.inl rfl))
    clear hE1 hE2 hbi H2
    go_wp2_with fail
    refine (kI _).mono ?_
    rintro e w3 ⟨rfl, rfl⟩
    clear kI
    go_wp2_with fail
    go_ret
    exact ⟨by rw [HM.out]; rfl, HB2.out⟩
  by_cases h2 : m < 2
  · have HM := Lib.hid (hE1 (.inr (.inl h2)))
    have h2' : (m : Int) < 2 := by omega
    clear hE1 hE2 hbi H2
    go_wp2_with fail
    refine (kI _).mono ?_
    rintro e w3 ⟨rfl, rfl⟩
    clear kI
    go_wp2_with fail
    go_ret
    exact ⟨by rw [HM.out]; rfl, HB2.out⟩
  have h2' : ¬ (m : Int) < 2 := by omega
  by_cases h3 : 128 < m
  · have HM := Lib.hid (hE1 (.inr (.inr h3)))
    have h3' : (128 : Int) < (m : Int) := by omega
    clear hE1 hE2 hbi H2
    go_wp2_with fail
    refine (kI _).mono ?_
    rintro e w3 ⟨rfl, rfl⟩
    clear kI
    go_wp2_with fail
    go_ret
    exact ⟨by rw [HM.out]; rfl, HB2.out⟩
  have h3' : ¬ (128 : Int) < (m : Int) := by omega
  have HE := Lib.hid (hE2 (by simp [h2, h3]))
  clear hE1 hE2 hbi
  go_wp2_with fail
  refine (kI _).mono ?_
  rintro e w3 ⟨rfl, rfl⟩
  clear kI
  go_upto_region 8 with fail
  clear h2' h3'
  obtain ⟨q1, q2, q3⟩ := H2.out.2.1.facts
  have kF := at_any p fresh A A' n c n' c' w2 H2.out.2.2.1
  obtain ⟨zf, hzf⟩ : ∃ z, z = atP p.parcels fresh := ⟨_, rfl⟩
  have hE := HE.out
  rw [← hzf] at kF hE
  have KF := Lib.hid kF
  clear kF HE hzf
  by_cases h4 : 0 ≤ zf
  · rw [if_pos h4] at hE
    have HM := Lib.hid hE
    clear hE
    go_wp2_with fail
    refine KF.out.mono ?_
    rintro e w3 ⟨rfl, hb3⟩
    have HB := Lib.hid (H2.out.on hb3).1
    clear hb3 H2 KF q1 q2 q3
    go_wp2_with fail
    go_ret
    exact ⟨by rw [HM.out]; rfl, HB.out⟩
  rw [if_neg h4] at hE
  have HE := Lib.hid hE
  clear hE
  go_wp2_with fail
  refine KF.out.mono ?_
  rintro e w3 ⟨rfl, hb3⟩
  have H3 := Lib.hid (H2.out.on hb3)
  have HB3 := Lib.hid H3.out.1
  clear hb3 H2 KF q1 q2 q3 HB2
  go_upto_region 10 with fail
  clear h4
  have kG := good_any path B m cb w3 H3.out.2.2.2 (by omega) HX.out.2
  have hE := HE.out
  rcases hgd : goodL path with _ | _
  · rw [hgd] at kG hE
    have KG := Lib.hid kG
    have HM := Lib.hid (hE.trans (if_pos rfl))
    clear kG hE hgd
    go_wp2_with fail
    refine KG.out.mono ?_
    rintro e w4 ⟨rfl, hb4⟩
    have HB := Lib.hid (H3.out.on hb4).1
    clear hb4 H3 KG
    go_wp2_with fail
    go_ret
    exact ⟨by rw [HM.out]; rfl, HB.out⟩
  rw [hgd] at kG hE
  have KG := Lib.hid kG
  rw [if_neg (by decide)] at hE
  have HG := Lib.hid hgd
  clear kG hgd HE
  have e0 := goodL_mem HG.out (show ptAt path 0 ∈ path from ptAt_mem (by have := HX.out.1; omega))
  have e1 := goodL_mem HG.out (show ptAt path (m - 1) ∈ path from ptAt_mem (by have := HX.out.1; omega))
  obtain ⟨a, ha⟩ : ∃ a, a = ptAt path 0 := ⟨_, rfl⟩
  obtain ⟨b, hb⟩ : ∃ b, b = ptAt path (m - 1) := ⟨_, rfl⟩
  rw [← ha, ← hb] at hE
  rw [← ha] at e0
  rw [← hb] at e1
  have HE := Lib.hid hE
  have HAB := Lib.hid (And.intro ha (And.intro hb (And.intro e0 e1)))
  clear ha hb e0 e1 hE
  go_wp2_with fail
  refine KG.out.mono ?_
  rintro e w4 ⟨rfl, hb4⟩
  have H4 := Lib.hid (H3.out.on hb4)
  clear hb4 H3 KG HB3
  obtain ⟨W, hW⟩ : ∃ W, W = w4 := ⟨_, rfl⟩
  rw [← hW] at H4
  go_upto_region 12 with fail
  rw [← hW]
  clear hW w4
  obtain ⟨q1, q2, q3⟩ := H4.out.2.1.facts
  have hkn : k < n' := by have := H4.out.2.2.1.lens.2.1; have := HK.out; omega
  have hkn' : (k : Int) < (n' : Int) := by omega
  obtain ⟨ad', rfl⟩ := H4.out.2.2.1.parcs.some_ (by omega)
  obtain ⟨-, -, ⟨Ak, nk, ck, p5, hrk, -, -⟩, -⟩ := H4.out.2.2.1.parcs.at_ hkn
  obtain ⟨rr, hrr⟩ : ∃ rr, rr = (pcAt p.parcels k).ring := ⟨_, rfl⟩
  have hsr := sound_ring HS.out (xs := rr) (.inr ⟨pcAt p.parcels k, by rw [pcAt_lt HK.out]; exact List.getElem_mem _, hrr⟩)
  have hE := HE.out
  rw [← hrr] at hrk hE
  have hrl := hrk.lenPt
  have HR := Lib.hid (And.intro hrk (And.intro (by omega : nk ≤ 128) hsr.1))
  have HE := Lib.hid hE
  clear hrk hrr hsr hrl hE
  obtain ⟨ad, rfl, -, -, -, -⟩ := H4.out.2.2.2.pt (k := 0) (by omega)
  obtain ⟨had, p1, p2⟩ := H4.out.2.2.2.ptA (k := 0) (by omega)
  obtain ⟨m1, hm1⟩ : ∃ m1, m1 = m - 1 := ⟨_, rfl⟩
  obtain ⟨-, p3, p4⟩ := H4.out.2.2.2.ptA (k := m1) (by omega)
  rw [show ptAt path 0 = a from HAB.out.1.symm, show ad.add (0 * 2) = ad by simp [Addr.add]] at p1 p2
  rw [show ptAt path m1 = b by rw [hm1]; exact HAB.out.2.1.symm] at p3 p4
  have hmi : IntKind.i64.wrap ((m : Int) - 1) = (m1 : Int) := by rw [IntKind.wrap_i64]; omega
  have hm0 : (0 : Int) < (m : Int) := by omega
  have hm2 : (m1 : Int) < (m : Int) := by omega
  have hk0 : ¬ (k : Int) < 0 := by omega
  have hm3 : m1 < m := by omega
  have HM1 := Lib.hid hm1
  clear hm1
  go_upto_region 13 with fail
  clear q1 q2 p5 hkn' hk0 hz0
  have hm00 : 0 < m := by omega
  have hh : ad.block < W.heap.size ∧ (⟨ad.block, ad.off + 1, none⟩ : Addr).block < W.heap.size ∧ (ad.add (m1 * 2)).block < W.heap.size ∧ (⟨(ad.add (m1 * 2)).block, (ad.add (m1 * 2)).off + 1, none⟩ : Addr).block < W.heap.size := by simp only [block_of_add]; exact ⟨had, had, had, had⟩
  have hP0 : W.drew.cell? ad = some (.int .i64 a.x) ∧ W.drew.cell? ⟨ad.block, ad.off + 1, none⟩ = some (.int .i64 a.y) ∧ W.drew.cell? (ad.add (m1 * 2)) = some (.int .i64 b.x) ∧ W.drew.cell? ⟨(ad.add (m1 * 2)).block, (ad.add (m1 * 2)).off + 1, none⟩ = some (.int .i64 b.y) ∧ Below W.heap.size W W.drew := ⟨p1, p2, p3, p4, (Below.refl _ _).drew⟩
  clear p1 p2 p3 p4 had
  go_cut [11, 12] (fun x y wx => TwoB W wx x y a b)
  case first =>
    refine wp_region_held_drew (S := fun V => V.cell? ad = some (.int .i64 a.x) ∧ V.cell? ⟨ad.block, ad.off + 1, none⟩ = some (.int .i64 a.y) ∧ V.cell? (ad.add (m1 * 2)) = some (.int .i64 b.x) ∧ V.cell? ⟨(ad.add (m1 * 2)).block, (ad.add (m1 * 2)).off + 1, none⟩ = some (.int .i64 b.y) ∧ Below W.heap.size W V) (by kernel_rfl) ?_ (fun hHeld => ?_)
    · exact hP0
    refine tk 0 ?_
    refine tk 1 ?_
    refine tk 2 ?_
    refine tk 3 ?_
    refine tk 4 ?_
    refine tk 5 ?_
    refine tk 6 ?_
    refine tk 7 ?_
    refine tk 8 ?_
    refine wpAnyH_ready (rs := [9, 10]) (by kernel_rfl) (by simp) ?_
    refine AllReadyH.cons rfl (fun K hK => ?_) (AllReadyH.cons rfl (fun K hK => ?_) AllReadyH.nil)
    · go_simp
      refine hK.out _ _ ?_ (fun hHeld => ?_)
      · exact hldF hh hP0 ((Below.refl _ _).alloc (Nat.le_refl _) _)
      clear hK K
      try simp only [Act.put, List.setIfInBounds_toArray, List.set_cons_zero, List.set_cons_succ]
      refine wpAnyH_ready (rs := [10]) (by kernel_rfl) (by simp) ?_
      refine AllReadyH.cons rfl (fun K hK => ?_) AllReadyH.nil
      go_simp
      refine hK.out _ _ ?_ (fun hHeld => ?_)
      · exact hldF hh hHeld ((Below.refl _ _).alloc (Nat.le_refl _) _)
      clear hK K
      try simp only [Act.put, List.setIfInBounds_toArray, List.set_cons_zero, List.set_cons_succ]
      refine wpAnyH_ready (rs := [11]) (by kernel_rfl) (by simp) ?_
      refine AllReadyH.cons rfl (fun K hK => ?_) AllReadyH.nil
      go_simp
      refine hK.out _ _ ?_ (fun hHeld => ?_)
      · exact hldF hh hP0 (show Below W.drew.heap.size W.drew (World.drew _) from ((Below.refl W.drew.heap.size W.drew).alloc (Nat.le_refl _) _).alloc (by simp) _)
      clear hK K
      try simp only [Act.put, List.setIfInBounds_toArray, List.set_cons_zero, List.set_cons_succ]
      refine wpAnyH_ready (rs := [12]) (by kernel_rfl) (by simp) ?_
      refine AllReadyH.cons rfl (fun K hK => ?_) AllReadyH.nil
      go_simp
      refine hK.out _ _ ?_ (fun hHeld => ?_)
      · exact hldF hh hP0 (show Below W.drew.heap.size W.drew (World.drew _) from ((Below.refl W.drew.heap.size W.drew).alloc (Nat.le_refl _) _).alloc (by simp) _)
      clear hK K
      try simp only [Act.put, List.setIfInBounds_toArray, List.set_cons_zero, List.set_cons_succ]
      refine wpAnyH_done (by kernel_rfl) ?_ _
      go_wp2_with fail
      go_meet
      exact twoB_1
    · go_simp
      refine hK.out _ _ ?_ (fun hHeld => ?_)
      · exact hldF hh hP0 ((Below.refl _ _).alloc (Nat.le_refl _) _)
      clear hK K
      try simp only [Act.put, List.setIfInBounds_toArray, List.set_cons_zero, List.set_cons_succ]
      refine wpAnyH_ready (rs := [9]) (by kernel_rfl) (by simp) ?_
      refine AllReadyH.cons rfl (fun K hK => ?_) AllReadyH.nil
      go_simp
      refine hK.out _ _ ?_ (fun hHeld => ?_)
      · exact hldF hh hHeld ((Below.refl _ _).alloc (Nat.le_refl _) _)
      clear hK K
      try simp only [Act.put, List.setIfInBounds_toArray, List.set_cons_zero, List.set_cons_succ]
      refine wpAnyH_ready (rs := [11]) (by kernel_rfl) (by simp) ?_
      refine AllReadyH.cons rfl (fun K hK => ?_) AllReadyH.nil
      go_simp
      refine hK.out _ _ ?_ (fun hHeld => ?_)
      · exact hldF hh hP0 (show Below W.drew.heap.size W.drew (World.drew _) from ((Below.refl W.drew.heap.size W.drew).alloc (Nat.le_refl _) _).alloc (by simp) _)
      clear hK K
      try simp only [Act.put, List.setIfInBounds_toArray, List.set_cons_zero, List.set_cons_succ]
      refine wpAnyH_ready (rs := [12]) (by kernel_rfl) (by simp) ?_
      refine AllReadyH.cons rfl (fun K hK => ?_) AllReadyH.nil
      go_simp
      refine hK.out _ _ ?_ (fun hHeld => ?_)
      · exact hldF hh hP0 (show Below W.drew.heap.size W.drew (World.drew _) from ((Below.refl W.drew.heap.size W.drew).alloc (Nat.le_refl _) _).alloc (by simp) _)
      clear hK K
      try simp only [Act.put, List.setIfInBounds_toArray, List.set_cons_zero, List.set_cons_succ]
      refine wpAnyH_done (by kernel_rfl) ?_ _
      go_wp2_with fail
      go_meet
      exact twoB_2
  case rest =>
    obtain ⟨g1, g2, rfl, rfl, k1, k2, hbc⟩ := hcut
    obtain ⟨V, rfl⟩ : ∃ V, V = wc := ⟨_, rfl⟩
    obtain ⟨r1, r2, -, -, -⟩ := k1.facts
    obtain ⟨r3, r4, r5, -, -⟩ := k2.facts
    have H5 := Lib.hid (H4.out.on hbc)
    have HR5 := Lib.hid (HR.out.1.on hbc)
    have HK2 := Lib.hid k2
    clear k1 k2 hbc hP0 hh H4 hm00 hm0 hm2 hm3 hmi
    have he := fun V => (eqPt_runs a b .eql (.tmp 0) (.tmp 0) V).1
    have hg := fun op x y V => (eqPt_runs a b op x y V).2
    have HB5 := Lib.hid H5.out.1
    by_cases hab : a = b
    · have HM := Lib.hid (HE.out.trans (if_pos (.inl hab)))
      rw [decide_eq_true hab] at he
      clear hab HE HAB
      go_wp2_with fail
      go_ret
      exact ⟨by rw [HM.out]; rfl, HB5.out⟩
    rw [decide_eq_false hab] at he
    have kW1 := within_any rr a Ak nk ck V HR5.out HR.out.2.1 HR.out.2.2 HAB.out.2.2.1
    obtain ⟨y1, hy1⟩ : ∃ y, y = sideI rr a := ⟨_, rfl⟩
    obtain ⟨y2, hy2⟩ : ∃ y, y = sideI rr b := ⟨_, rfl⟩
    have hE := HE.out
    rw [← hy1, ← hy2] at hE
    rw [← hy1] at kW1
    have KW1 := Lib.hid kW1
    have HY2 := Lib.hid hy2
    clear hy1 hy2 HE kW1
    by_cases h6 : y1 = 0
    case neg =>
      have HM := Lib.hid (hE.trans (if_pos (.inr (.inl h6))))
      clear hE hab
      go_wp2_with fail
      refine KW1.out.mono ?_
      rintro e w6 ⟨rfl, hb6⟩
      have HB := Lib.hid (H5.out.on hb6).1
      clear hb6 H5 KW1 r1 r2 r3 r4 r5 he hg HAB HK2 HB5
      go_wp2_with fail
      go_ret
      exact ⟨by rw [HM.out]; rfl, HB.out⟩
    subst h6
    have HE := Lib.hid hE
    have HNE := Lib.hid hab
    clear hE hab
    go_wp2_with fail
    refine KW1.out.mono ?_
    rintro e w6 ⟨rfl, hb6⟩
    have H6 := Lib.hid (H5.out.on hb6)
    obtain ⟨r3, r4, -, -, -⟩ := PtK.facts (show PtK w6 g2 b from Blk.below HK2.out hb6 (Blk.lt HK2.out))
    have kW2 := within_any rr b Ak nk ck w6 (HR5.out.on hb6) HR.out.2.1 HR.out.2.2 HAB.out.2.2.2
    rw [← HY2.out] at kW2
    have KW2 := Lib.hid kW2
    have hE := HE.out
    clear hb6 H5 KW1 r1 r2 r5 he hg HAB HK2 HB5 kW2 HE
    by_cases h7 : y2 = 0
    case neg =>
      have HM := Lib.hid (hE.trans (if_pos (.inr (.inr h7))))
      clear hE
      go_wp2_with fail
      refine KW2.out.mono ?_
      rintro e w7 ⟨rfl, hb7⟩
      have HB := Lib.hid (H6.out.on hb7).1
      clear hb7 H6 KW2 r3 r4
      go_wp2_with fail
      go_ret
      exact ⟨by rw [HM.out]; rfl, HB.out⟩
    subst h7
    have HM := Lib.hid (hE.trans (if_neg (by simp [HNE.out])))
    clear hE
    go_wp2_with fail
    refine KW2.out.mono ?_
    rintro e w7 ⟨rfl, hb7⟩
    have HB := Lib.hid (H6.out.on hb7).1
    clear hb7 H6 KW2 r3 r4
    go_wp2_with fail
    go_ret
    exact ⟨by rw [HM.out]; rfl, HB.out⟩

end Go.Proofs.YtmegmokjjlelgaaGreat
namespace Go.Proofs.YtmegmokjjlelgaaGreat
theorem insK_in (xs : List Pt) (q : Pt) (k : Nat) : (inS (ptAt xs k) (ptAt xs ((k + 1) % xs.length)) q → insK xs q k = [ptAt xs k, q]) ∧ (¬ inS (ptAt xs k) (ptAt xs ((k + 1) % xs.length)) q → insK xs q k = [ptAt xs k]) := by
  unfold insK inS
  generalize ptAt xs ((k + 1) % xs.length) = b
  generalize ptAt xs k = a
  rcases onB a b q with _ | _ <;> by_cases h1 : q = a <;> by_cases h2 : q = b <;> simp [h1, h2]
theorem insL_range (xs : List Pt) (q : Pt) : ∀ m, m ≤ xs.length → (∀ i, i < xs.length → ¬ inS (ptAt xs i) (ptAt xs ((i + 1) % xs.length)) q) → insL xs q (List.range m) = xs.take m := fun m => by
  induction m with
  | zero => intro _ _; simp [insL]
  | succ m ih =>
    intro hm hn
    have h1 := (insK_in xs q m).2 (hn m (by omega))
    have h2 := ih (by omega) hn
    unfold insL at *
    rw [List.range_succ, List.flatMap_append, h2, List.flatMap_singleton, h1, ptAt_lt (by omega), List.take_succ_eq_append_getElem (by omega)]
theorem ins_none {xs : List Pt} {q : Pt} (hn : ∀ i, i < xs.length → ¬ inS (ptAt xs i) (ptAt xs ((i + 1) % xs.length)) q) : insG q xs = xs := by
  unfold insG
  rw [insL_range xs q _ (Nat.le_refl _) hn, List.take_length]
theorem insL_one {xs : List Pt} {q : Pt} {k : Nat} (hk : k < xs.length) (hin : inS (ptAt xs k) (ptAt xs ((k + 1) % xs.length)) q) (hn : ∀ i, i < xs.length → i ≠ k → ¬ inS (ptAt xs i) (ptAt xs ((i + 1) % xs.length)) q) :
    ∀ m, m ≤ xs.length → insL xs q (List.range m) = if k < m then xs.take (k + 1) ++ [q] ++ (xs.take m).drop (k + 1) else xs.take m := fun m => by
  induction m with
  | zero => intro _; simp [insL]
  | succ m ih =>
    intro hm
    have h2 := ih (by omega)
    have ht : xs.take (m + 1) = xs.take m ++ [ptAt xs m] := by rw [ptAt_lt (by omega), List.take_succ_eq_append_getElem (by omega)]
    unfold insL at *
    rw [List.range_succ, List.flatMap_append, h2, List.flatMap_singleton]
    by_cases h : m = k
    · subst h
      rw [(insK_in xs q m).1 hin, if_neg (by omega), if_pos (by omega), ht, List.drop_of_length_le (by simp; omega)]
      simp
    · rw [(insK_in xs q m).2 (hn m (by omega) h)]
      by_cases h3 : k < m
      · rw [if_pos h3, if_pos (by omega), ht, List.drop_append_of_le_length (by rw [List.length_take]; omega)]
        simp
      · rw [if_neg h3, if_neg (by omega), ht]
theorem ins_one {xs : List Pt} {q : Pt} {k : Nat} (hk : k < xs.length) (hin : inS (ptAt xs k) (ptAt xs ((k + 1) % xs.length)) q) (hn : ∀ i, i < xs.length → i ≠ k → ¬ inS (ptAt xs i) (ptAt xs ((i + 1) % xs.length)) q) : insG q xs = mark k q xs := by
  unfold insG mark
  rw [insL_one hk hin hn _ (Nat.le_refl _), if_pos hk, List.take_length]
theorem ptAt_goodL {xs : List Pt} (hg : goodL xs = true) {k : Nat} (hk : k < xs.length) : good (ptAt xs k) = true := goodL_mem hg (ptAt_mem hk)
/-- A point lies within one edge of a ring at most. -/
theorem ins_uniq {xs : List Pt} {q : Pt} (hc : checkI xs = 0) (hq : good q = true) {i k : Nat} (hi : i < xs.length) (hk : k < xs.length) (h1 : inS (ptAt xs i) (ptAt xs ((i + 1) % xs.length)) q) (h2 : inS (ptAt xs k) (ptAt xs ((k + 1) % xs.length)) q) : i = k := by
  obtain ⟨-, hg, h3, -, hP⟩ := checkI_zero hc
  refine Classical.byContradiction fun hne => ?_
  have hp := ((pairs_iff xs).1 hP i k hi hk hne).2
  have hm : ∀ j, (j + 1) % xs.length < xs.length := fun j => Nat.mod_lt _ (by omega)
  have g := fun j (hj : j < xs.length) => ptAt_goodL hg hj
  have e : meetOf xs i k = meetR (ptAt xs i) (ptAt xs ((i + 1) % xs.length)) (ptAt xs k) (ptAt xs ((k + 1) % xs.length)) := rfl
  rw [e] at hp
  split at hp
  · exact inS_one (g i hi) (g _ (hm i)) (g k hk) (g _ (hm k)) hq h1 h2 hp
  · exact inS_touch (g i hi) (g _ (hm i)) (g k hk) (g _ (hm k)) h1 h2 hp
/-- What comes of a point that is no corner: nothing, or a corner more on just one edge. -/
theorem ins_cases {xs : List Pt} {q : Pt} (hc : checkI xs = 0) (hq : good q = true) : (insG q xs = xs ∧ ∀ i, i < xs.length → ¬ inS (ptAt xs i) (ptAt xs ((i + 1) % xs.length)) q) ∨ ∃ k, k < xs.length ∧ inS (ptAt xs k) (ptAt xs ((k + 1) % xs.length)) q ∧ insG q xs = mark k q xs := by
  by_cases h : ∃ k, k < xs.length ∧ inS (ptAt xs k) (ptAt xs ((k + 1) % xs.length)) q
  · obtain ⟨k, hk, hin⟩ := h
    exact .inr ⟨k, hk, hin, ins_one hk hin fun i hi hne h1 => hne (ins_uniq hc hq hi hk h1 hin)⟩
  · have hn : ∀ i, i < xs.length → ¬ inS (ptAt xs i) (ptAt xs ((i + 1) % xs.length)) q := fun i hi h1 => h ⟨i, hi, h1⟩
    exact .inl ⟨ins_none hn, hn⟩
theorem mark_lo {xs : List Pt} {q : Pt} {k i : Nat} (hk : k < xs.length) (hi : i ≤ k) : ptAt (mark k q xs) i = ptAt xs i := by
  have h0 : i < (xs.take (k + 1)).length := by rw [List.length_take]; omega
  unfold ptAt mark
  rw [List.append_assoc, List.getElem?_append_left h0, List.getElem?_take_of_lt (by omega)]
theorem mark_mid {xs : List Pt} {q : Pt} {k : Nat} (hk : k < xs.length) : ptAt (mark k q xs) (k + 1) = q := by
  have h0 : (xs.take (k + 1)).length = k + 1 := by rw [List.length_take]; omega
  unfold ptAt mark
  rw [List.append_assoc, List.getElem?_append_right (by omega), h0]
  simp
theorem mark_hi {xs : List Pt} {q : Pt} {k i : Nat} (hk : k < xs.length) (hi : k + 1 ≤ i) : ptAt (mark k q xs) (i + 1) = ptAt xs i := by
  have h0 : (xs.take (k + 1) ++ [q]).length = k + 2 := by simp; omega
  unfold ptAt mark
  rw [List.getElem?_append_right (by omega), h0, List.getElem?_drop, show k + 1 + (i + 1 - (k + 2)) = i by omega]
theorem ringOf_each {g : List Pt → List Pt} {p : Plan} {ys : List Pt} (h : ringOf (eachP g p) ys) : ∃ xs, ringOf p xs ∧ ys = lst (g xs) := by
  rcases h with rfl | ⟨y, hy, rfl⟩
  · exact ⟨p.outer, .inl rfl, rfl⟩
  · obtain ⟨x, hx, rfl⟩ := each_sound hy
    exact ⟨x.ring, .inr ⟨x, hx, rfl⟩, rfl⟩
end Go.Proofs.YtmegmokjjlelgaaGreat

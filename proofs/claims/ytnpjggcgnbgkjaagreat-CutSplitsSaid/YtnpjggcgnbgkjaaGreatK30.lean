/- cut.fault: the model. (The walk is not begun.); Plain law: two stretches with a point within both have more in common than one end. Rotations of a ring without repetition; bend.begin, bend.done, bend.Mark: the walks; What lies beside With; A ring that begins at its least corner stays (split off RefMark2). -/
import Derived.Test.YtnpjggcgnbgkjaaGreatK10
import Derived.Test.YtnpjggcgnbgkjaaGreatK12
import Derived.Test.YtnpjggcgnbgkjaaGreatK15
import Derived.Test.YtnpjggcgnbgkjaaGreatK16
import Derived.Test.YtnpjggcgnbgkjaaGreatK17
import Derived.Test.YtnpjggcgnbgkjaaGreatK18
import Derived.Test.YtnpjggcgnbgkjaaGreatK19
import Derived.Test.YtnpjggcgnbgkjaaGreatK23
import Derived.Test.YtnpjggcgnbgkjaaGreatK28
namespace Go.Proofs.YtnpjggcgnbgkjaaGreat
/-- The error of what is asked of a cut. -/
noncomputable def faultI (p : Plan) (id : Int) (path : List Pt) (fresh : Int) : Int :=
  if planB p = false then 2 else if atP p.parcels id < 0 then 5 else if idB fresh = false ∨ path.length < 2 ∨ 128 < path.length then 1 else if 0 ≤ atP p.parcels fresh then 6 else if goodL path = false then 3 else
  if ptAt path 0 = ptAt path (path.length - 1) ∨ sideI (pcAt p.parcels (atP p.parcels id).toNat).ring (ptAt path 0) ≠ 0 ∨ sideI (pcAt p.parcels (atP p.parcels id).toNat).ring (ptAt path (path.length - 1)) ≠ 0 then 7 else 0
theorem faultI_zero {p : Plan} {id fresh : Int} {path : List Pt} (h : faultI p id path fresh = 0) : SoundP p ∧ (∃ k : Nat, k < p.parcels.length ∧ atP p.parcels id = (k : Int) ∧ (pcAt p.parcels k).id = id ∧ sideI (pcAt p.parcels k).ring (ptAt path 0) = 0 ∧ sideI (pcAt p.parcels k).ring (ptAt path (path.length - 1)) = 0) ∧ idB fresh = true ∧ 2 ≤ path.length ∧ path.length ≤ 128 ∧ atP p.parcels fresh < 0 ∧ goodL path = true ∧ ptAt path 0 ≠ ptAt path (path.length - 1) := by
  unfold faultI at h
  split at h
  · cases h
  rename_i h1
  split at h
  · cases h
  rename_i h2
  split at h
  · cases h
  rename_i h3
  split at h
  · cases h
  rename_i h4
  split at h
  · cases h
  rename_i h5
  split at h
  · cases h
  rename_i h6
  rcases atP_cases p.parcels id with ⟨e, -⟩ | ⟨k, hk, e, hid⟩
  · omega
  rw [e, Int.toNat_natCast] at h6
  have hs : SoundP p := by
    have : planB p = true := by simpa using h1
    unfold planB at this
    simpa using this
  have hf : idB fresh = true := Classical.byContradiction fun hn => h3 (.inl (by simpa using hn))
  have ha : ¬ path.length < 2 := fun hn => h3 (.inr (.inl hn))
  have hb : ¬ 128 < path.length := fun hn => h3 (.inr (.inr hn))
  refine ⟨hs, ⟨k, hk, e, hid, ?_, ?_⟩, hf, by omega, by omega, by omega, by simpa using h5, fun hn => h6 (.inl hn)⟩
  · exact Classical.byContradiction fun hn => h6 (.inr (.inl hn))
  · exact Classical.byContradiction fun hn => h6 (.inr (.inr hn))
end Go.Proofs.YtnpjggcgnbgkjaaGreat
namespace Go.Proofs.YtnpjggcgnbgkjaaGreat
theorem par0 {ux uy vx vy wx wy : Int} (h1 : ux * vy - uy * vx = 0) (h2 : vx * wy - vy * wx = 0) (hv : vx ≠ 0 ∨ vy ≠ 0) : ux * wy - uy * wx = 0 := by
  rcases hv with h | h
  · have e : vx * (ux * wy - uy * wx) = ux * (vx * wy - vy * wx) + wx * (ux * vy - uy * vx) := by grind
    rw [h1, h2] at e
    rcases Int.mul_eq_zero.1 (e.trans (by simp)) with h3 | h3
    · exact absurd h3 h
    · exact h3
  · have e : vy * (ux * wy - uy * wx) = uy * (vx * wy - vy * wx) + wy * (ux * vy - uy * vx) := by grind
    rw [h1, h2] at e
    rcases Int.mul_eq_zero.1 (e.trans (by simp)) with h3 | h3
    · exact absurd h3 h
    · exact h3
theorem pt_sub_ne {p q : Pt} (h : p ≠ q) : p.x - q.x ≠ 0 ∨ p.y - q.y ≠ 0 := by
  by_cases hx : p.x = q.x
  · by_cases hy : p.y = q.y
    · exact absurd (by obtain ⟨a, b⟩ := p; obtain ⟨c, d⟩ := q; simp at hx hy; rw [hx, hy]) h
    · exact .inr (by omega)
  · exact .inl (by omega)
/-- Two points of two straight lines: all four ends lie on one. -/
theorem line_of {a b c d e q : Pt} (hcd : c ≠ d) (heq : e ≠ q) (h1 : cr a b e = 0) (h2 : cr a b q = 0) (h3 : cr c d e = 0) (h4 : cr c d q = 0) : cr a b c = 0 ∧ cr a b d = 0 := by
  unfold cr at *
  have k1 : (b.x - a.x) * (e.y - q.y) - (b.y - a.y) * (e.x - q.x) = 0 := by grind
  have k2 : (e.x - q.x) * (d.y - c.y) - (e.y - q.y) * (d.x - c.x) = 0 := by grind
  have k3 := par0 k1 k2 (pt_sub_ne heq)
  have k4 : (d.x - c.x) * (q.y - c.y) - (d.y - c.y) * (q.x - c.x) = 0 := h4
  have k5 := par0 k3 k4 (pt_sub_ne (Ne.symm hcd))
  have k6 : (d.x - c.x) * (q.y - d.y) - (d.y - c.y) * (q.x - d.x) = 0 := by grind
  have k7 := par0 k3 k6 (pt_sub_ne (Ne.symm hcd))
  exact ⟨by grind, by grind⟩
/-- A point within a stretch: on it, and neither of its ends. -/
def inS (a b q : Pt) : Prop := onB a b q = true ∧ q ≠ a ∧ q ≠ b
theorem inS_ne {a b q : Pt} (h : inS a b q) : a ≠ b := fun e => by
  subst e
  have h1 := (onB_iff a a q).1 h.1
  apply h.2.1
  obtain ⟨x, y⟩ := q
  obtain ⟨u, v⟩ := a
  simp only [Pt.mk.injEq]
  simp only at h1
  omega
theorem key_lt_or {p q : Pt} (hp : good p = true) (hq : good q = true) (h : p ≠ q) : key p < key q ∨ key q < key p := by
  rcases key_ord hp hq with h1 | h1 | h1
  · exact .inl h1.1
  · exact .inr h1.1
  · exact absurd h1.1 h
theorem inS_touch {a b c d q : Pt} (ha : good a = true) (hb : good b = true) (hc : good c = true) (hd : good d = true) (h1 : inS a b q) (h2 : inS c d q) : meetR a b c d ≠ 0 := fun h => by
  apply (meet_zero (a := a) (b := b) (c := c) (d := d)).1 h
  obtain ⟨N, t, n1, n2, n3, n4, n5⟩ := on_param h1.1
  obtain ⟨M, s, m1, m2, m3, m4, m5⟩ := on_param h2.1
  have hs : 0 ≤ M - s := by omega
  have ht : 0 ≤ N - t := by omega
  have ht2 := Int.mul_le_mul_of_nonneg_right n3 (Int.le_of_lt m1)
  refine touch_of_com (N := N * M) (t := t * M) (A := N * (M - s)) (B := N * s) ha hb hc hd ⟨Int.mul_pos n1 m1, Int.mul_nonneg n2 (Int.le_of_lt m1), ht2, Int.mul_nonneg (Int.le_of_lt n1) hs, Int.mul_nonneg (Int.le_of_lt n1) m2, ?_, ?_, ?_⟩
  · grind
  · have e1 : (N * M - t * M) * a.x + t * M * b.x = M * ((N - t) * a.x + t * b.x) := by grind
    have e2 : N * (M - s) * c.x + N * s * d.x = N * ((M - s) * c.x + s * d.x) := by grind
    rw [e1, e2, n4, m4]
    grind
  · have e1 : (N * M - t * M) * a.y + t * M * b.y = M * ((N - t) * a.y + t * b.y) := by grind
    have e2 : N * (M - s) * c.y + N * s * d.y = N * ((M - s) * c.y + s * d.y) := by grind
    rw [e1, e2, n5, m5]
    grind
theorem inS_one {a b c d q : Pt} (ha : good a = true) (hb : good b = true) (hc : good c = true) (hd : good d = true) (hq : good q = true) (h1 : inS a b q) (h2 : inS c d q) : meetR a b c d ≠ 1 := fun h => by
  unfold meetR at h
  have hnd : ¬ difB (endsL a b c d) = true := fun hd' => by rw [if_pos hd'] at h; cases h
  rw [if_neg hnd] at h
  have hne : endsL a b c d ≠ [] := fun hn => by
    rw [if_neg (fun h' => h' hn)] at h
    split at h <;> cases h
  obtain ⟨e, he⟩ := List.exists_mem_of_ne_nil _ hne
  have hab := inS_ne h1
  have hcd := inS_ne h2
  have hends : ∀ x, x ∈ endsL a b c d ↔ (x = a ∧ onB c d a = true) ∨ (x = b ∧ onB c d b = true) ∨ (x = c ∧ onB a b c = true) ∨ (x = d ∧ onB a b d = true) := fun x => by
    unfold endsL
    rcases onB c d a with _ | _ <;> rcases onB c d b with _ | _ <;> rcases onB a b c with _ | _ <;> rcases onB a b d with _ | _ <;> simp
  have heq : e ≠ q := fun e' => by
    rw [e'] at he
    rcases (hends q).1 he with ⟨h', -⟩ | ⟨h', -⟩ | ⟨h', -⟩ | ⟨h', -⟩
    · exact h1.2.1 h'
    · exact h1.2.2 h'
    · exact h2.2.1 h'
    · exact h2.2.2 h'
  obtain ⟨o1, o2⟩ := endsL_mem he
  have z1 := ((onB_iff a b e).1 o1).1
  have z2 := ((onB_iff a b q).1 h1.1).1
  have z3 := ((onB_iff c d e).1 o2).1
  have z4 := ((onB_iff c d q).1 h2.1).1
  obtain ⟨l1, l2⟩ := line_of hcd heq z1 z2 z3 z4
  obtain ⟨l3, l4⟩ := line_of hab heq z3 z4 z1 z2
  have k1 := ((onB_key ha hb hq).1 h1.1).2
  have k2 := ((onB_key hc hd hq).1 h2.1).2
  have s1 := key_lt_or hq ha h1.2.1
  have s2 := key_lt_or hq hb h1.2.2
  have s3 := key_lt_or hq hc h2.2.1
  have s4 := key_lt_or hq hd h2.2.2
  apply hnd
  rw [difB_iff]
  have hA : (key c ≤ key a ∧ key a ≤ key d) ∨ (key d ≤ key a ∧ key a ≤ key c) → a ∈ endsL a b c d := fun h' => (hends a).2 (.inl ⟨rfl, (onB_key hc hd ha).2 ⟨l3, h'⟩⟩)
  have hB : (key c ≤ key b ∧ key b ≤ key d) ∨ (key d ≤ key b ∧ key b ≤ key c) → b ∈ endsL a b c d := fun h' => (hends b).2 (.inr (.inl ⟨rfl, (onB_key hc hd hb).2 ⟨l4, h'⟩⟩))
  have hC : (key a ≤ key c ∧ key c ≤ key b) ∨ (key b ≤ key c ∧ key c ≤ key a) → c ∈ endsL a b c d := fun h' => (hends c).2 (.inr (.inr (.inl ⟨rfl, (onB_key ha hb hc).2 ⟨l1, h'⟩⟩)))
  have hD : (key a ≤ key d ∧ key d ≤ key b) ∨ (key b ≤ key d ∧ key d ≤ key a) → d ∈ endsL a b c d := fun h' => (hends d).2 (.inr (.inr (.inr ⟨rfl, (onB_key ha hb hd).2 ⟨l2, h'⟩⟩)))
  have lo : ∃ x, x ∈ endsL a b c d ∧ key x < key q := by
    by_cases g1 : key a < key q <;> by_cases g2 : key c < key q <;> by_cases g3 : key a ≤ key c <;> by_cases g4 : key a ≤ key d <;> by_cases g5 : key b ≤ key c <;> by_cases g6 : key b ≤ key d <;>
      first
      | exact ⟨a, hA (by omega), by omega⟩
      | exact ⟨b, hB (by omega), by omega⟩
      | exact ⟨c, hC (by omega), by omega⟩
      | exact ⟨d, hD (by omega), by omega⟩
  have hi : ∃ x, x ∈ endsL a b c d ∧ key q < key x := by
    by_cases g1 : key a < key q <;> by_cases g2 : key c < key q <;> by_cases g3 : key a ≤ key c <;> by_cases g4 : key a ≤ key d <;> by_cases g5 : key b ≤ key c <;> by_cases g6 : key b ≤ key d <;>
      first
      | exact ⟨a, hA (by omega), by omega⟩
      | exact ⟨b, hB (by omega), by omega⟩
      | exact ⟨c, hC (by omega), by omega⟩
      | exact ⟨d, hD (by omega), by omega⟩
  obtain ⟨x, hx, hxq⟩ := lo
  obtain ⟨y, hy, hyq⟩ := hi
  exact ⟨x, y, hx, hy, fun e => by rw [e] at hxq; omega⟩
-- rotations
theorem nodup_ptAt {xs : List Pt} (hn : xs.Nodup) {i j : Nat} (hi : i < xs.length) (hj : j < xs.length) (h : ptAt xs i = ptAt xs j) : i = j := by
  rw [ptAt_lt hi, ptAt_lt hj] at h
  exact (List.getElem_inj hn).1 h
theorem lst_eq_rot (xs : List Pt) : ∃ j, (xs ≠ [] → j < xs.length) ∧ lst xs = rot j xs := by
  refine ⟨leastN xs xs.length, fun h => leastN_lt xs (List.length_pos_iff.2 h), rfl⟩
-- sound plans
theorem sound_nodup {p : Plan} {xs : List Pt} (hs : SoundP p) (h : ringOf p xs) : xs.Nodup ∧ lst xs = xs ∧ xs ≠ [] := by
  obtain ⟨-, -, h3, hc⟩ := sound_ring hs h
  refine ⟨pairs_nodup (checkI_zero hc).2.2.2.2, ?_, fun e => by rw [e] at h3; simp at h3⟩
  rcases h with rfl | ⟨x, hx, rfl⟩
  · exact hs.2.1.2.symm
  · exact (hs.2.2.1 x hx).2.symm
theorem mem_lst {xs : List Pt} {p : Pt} : p ∈ lst xs ↔ p ∈ xs := by
  refine ⟨lst_mem, fun h => ?_⟩
  obtain ⟨j, -, e⟩ := lst_eq_rot xs
  rw [e]
  unfold rot
  rw [← List.take_append_drop j xs] at h
  rw [List.mem_append] at h ⊢
  exact h.symm
theorem each_sound {g : List Pt → List Pt} {p : Plan} {y : Parc} (hy : y ∈ (eachP g p).parcels) : ∃ x ∈ p.parcels, y = eachX g x := by
  obtain ⟨x, hx, e⟩ := List.mem_map.1 hy
  exact ⟨x, hx, e.symm⟩
end Go.Proofs.YtnpjggcgnbgkjaaGreat
namespace Go.Proofs.YtnpjggcgnbgkjaaGreat
open Go.RowKit Go.Lib
theorem res_store {w W : World} {g : Nat} {a b : Value} (hb : Below w.heap.size w W) (hg : w.heap.size ≤ g) (hk : Blk W g 26 #[a, b]) (u v : Value) :
    ∃ V, V = (W.setCell ⟨g, 0, none⟩ u).setCell ⟨g, 1, none⟩ v ∧ V.cell? ⟨g, 0, none⟩ = some u ∧ V.cell? ⟨g, 1, none⟩ = some v ∧ Below w.heap.size w V := by
  have hK := Blk.set_ (Blk.set_ hk 0 u) 1 v
  exact ⟨_, rfl, by rw [Blk.cell hK 0]; rfl, by rw [Blk.cell hK 1]; rfl, (hb.setCell (p := ⟨g, 0, none⟩) hg u).setCell (p := ⟨g, 1, none⟩) hg v⟩
theorem plk_facts4 {W : World} {g : Nat} {a b : Value} (hk : Blk W g 26 #[a, b]) : W.cell? ⟨g, 0, none⟩ = some a ∧ W.cell? ⟨g, 1, none⟩ = some b ∧ W.frozen? ⟨g, 0, none⟩ = false ∧ W.frozen? ⟨g, 1, none⟩ = false := ⟨Blk.cell hk 0, Blk.cell hk 1, Blk.frozen hk 0, Blk.frozen hk 1⟩
def ResPostS (r : Plan) (z : Int) (w : World) (e : Ending) (w' : World) : Prop := ∃ A n c A' n' c' hs, e = .returned (.tuple #[planV A n c A' n' c', .int .i64 z]) ∧ PlanOwn w.heap.size w' A n c A' n' c' r hs ∧ Below w.heap.size w w'
theorem planOwn_nil (B : Nat) (W : World) : PlanOwn B W none 0 0 none 0 0 ⟨[], []⟩ [] := ⟨World.ownsRow_nil _ _ _ _, World.ownsRow_nil _ _ _ _, rfl, rfl, fun j hj => absurd hj (Nat.not_lt_zero _), ⟨⟨by simp, by simp⟩, by simp, by simp⟩⟩
theorem resPostS_no {w V : World} {z : Int} {r : Plan} (hr : r = ⟨[], []⟩) (hb : Below w.heap.size w V) : ResPostS r z w (.returned (.tuple #[planV none 0 0 none 0 0, .int .i64 z])) V := ⟨none, 0, 0, none, 0, 0, [], rfl, by rw [hr]; exact planOwn_nil _ V, hb⟩
-- MARK
end Go.Proofs.YtnpjggcgnbgkjaaGreat
namespace Go.Proofs.YtnpjggcgnbgkjaaGreat
open Go.RowKit Go.Lib
theorem insK_out {xs : List Pt} {q : Pt} {k : Nat} (hk : k < xs.length) (hq : q ∉ xs) : insK xs q k = ptAt xs k :: (if onB (ptAt xs k) (ptAt xs ((k + 1) % xs.length)) q = true then [q] else []) := by
  have h2 : (k + 1) % xs.length < xs.length := Nat.mod_lt _ (by omega)
  unfold insK
  rw [decide_eq_false (fun h => hq (by rw [h]; exact ptAt_mem hk)), decide_eq_false (fun h => hq (by rw [h]; exact ptAt_mem h2))]
  simp
theorem box_grown {W w6 : World} {tmp : Obj} {g : Nat} {v : Value} {q : Pt} (hk : PtK W g q) (hg : (W.alloc tmp).grownBy w6 v.ownBlock) (hne : ∀ b, v.ownBlock = some b → b ≠ g) : PtK w6 g q :=
  (hg.block _ (by have := Blk.lt hk; simp; omega) (fun e => hne g e.symm rfl)).trans (Blk.alloc hk tmp)
theorem hldw6 {W V V' : World} {a0 a1 a2 a3 a4 a5 : Addr} {v0 v1 v2 v3 v4 v5 : Value} (hh : a0.block < W.heap.size ∧ a1.block < W.heap.size ∧ a2.block < W.heap.size ∧ a3.block < W.heap.size ∧ a4.block < W.heap.size ∧ a5.block < W.heap.size) (hs : V.cell? a0 = some v0 ∧ V.cell? a1 = some v1 ∧ V.cell? a2 = some v2 ∧ V.cell? a3 = some v3 ∧ V.cell? a4 = some v4 ∧ V.cell? a5 = some v5 ∧ Below W.heap.size W V) (hb : Below V.heap.size V V') :
    V'.cell? a0 = some v0 ∧ V'.cell? a1 = some v1 ∧ V'.cell? a2 = some v2 ∧ V'.cell? a3 = some v3 ∧ V'.cell? a4 = some v4 ∧ V'.cell? a5 = some v5 ∧ Below W.heap.size W V' := by
  obtain ⟨h0, h1, h2, h3, h4, h5⟩ := hh
  obtain ⟨c0, c1, c2, c3, c4, c5, cb⟩ := hs
  have := cb.size
  have k : ∀ {a : Addr} {v : Value}, a.block < W.heap.size → V.cell? a = some v → V'.cell? a = some v := fun {a v} ha hv => (hb.cell (p := a) (by omega)).trans hv
  exact ⟨k h0 c0, k h1 c1, k h2 c2, k h3 c3, k h4 c4, k h5 c5, below_on cb (Nat.le_refl _) hb⟩
set_option maxRecDepth 100000 in
set_option maxHeartbeats 3200000 in
theorem with_any (xs : List Pt) (q : Pt) (A : Option Addr) (n cap : Nat) (w : World) (hr : Reads w w.heap.size 2 A n (ptsV xs)) (hn : n ≤ 1024) (hg : goodL xs = true) (hq : good q = true) (hni : q ∉ xs) :
    Calls Tryz.prog 136 #[.slice A n cap, .agg #[.int .i64 q.x, .int .i64 q.y]] w fun e w' => ∃ A' c', e = .returned (.slice A' (insG q xs).length c') ∧ w'.ownsRow w.heap.size 35 2 (.slice A' (insG q xs).length c') (insG q xs).length (ptsV (insG q xs)) ∧ Below w.heap.size w w' := by
  obtain ⟨i0, hi0, hz0, hz1, hz2⟩ := info_parts info_pt
  have hl : xs.length = n := hr.lenPt
  obtain ⟨wa, hwa⟩ : ∃ wa : World, wa = w.alloc (.cells #[.int .i64 q.x, .int .i64 q.y] 35) := ⟨_, rfl⟩
  have hB0 : Below w.heap.size w wa := by rw [hwa]; exact (Below.refl _ _).alloc (Nat.le_refl _) _
  have hP0 : PtK wa w.heap.size q := by rw [hwa]; exact PtK.new w q
  have hix : idxPt xs q = -1 := by
    have := mt idx_nonneg.1 hni
    unfold idxPt at this ⊢
    rw [if_neg hni]
  have kI := inR_any xs q A n cap wa (hr.on hB0) (by omega)
  rw [hix] at kI
  have KI := Lib.hid kI
  have HR := Lib.hid (And.intro hr (And.intro hl (And.intro hg (And.intro hq hni))))
  have H0 := Lib.hid (And.intro hB0 hP0)
  obtain ⟨q1, q2, -, -, -⟩ := hP0.facts
  clear hr hl hg hq hni hB0 hP0 hix kI
  go_enter Tryz.func136, Tryz.ntmps136
  go_upto_region 1 with fail
  rw [← hwa]
  clear hwa
  go_wp2_with fail
  refine KI.out.mono ?_
  rintro e w1 ⟨rfl, hb1⟩
  have H1 := Lib.hid (And.intro (below_on H0.out.1 (Nat.le_refl _) hb1) (And.intro (show PtK w1 w.heap.size q from Blk.below H0.out.2 hb1 (Blk.lt H0.out.2)) (show w1.ownsRow (w.heap.size + 1) 35 2 (.slice none 0 0) 0 (ptsV (insL xs q (List.range 0))) from World.ownsRow_nil _ _ _ _)))
  clear hb1 H0 KI q1 q2
  go_wp2_with fail
  obtain ⟨wo, hwo⟩ : ∃ wo : World, wo = w1 := ⟨_, rfl⟩
  rw [← hwo] at H1
  rw [← hwo]
  clear hwo
  go_loopw [5, 6] (fun s i wr => ∃ k : Nat, k ≤ n ∧ i = .int .i64 (k : Int) ∧ ∃ A' c m, s = .slice A' m c ∧ m = (insL xs q (List.range k)).length ∧ Hid (Below w.heap.size w wr ∧ PtK wr w.heap.size q ∧ wr.ownsRow (w.heap.size + 1) 35 2 (.slice A' m c) m (ptsV (insL xs q (List.range k))))) (fun _ i _ => n - (intOf i).toNat)
  case atStart => exact ⟨0, Nat.zero_le _, rfl, none, 0, 0, rfl, rfl, H1⟩
  case round =>
    clear H1
    obtain ⟨k, hk, rfl, A', c, m, rfl, hm, HW⟩ := hrel
    by_cases hlt : k < n
    · have hlt' : (k : Int) < (n : Int) := by omega
      have hw1 : IntKind.i64.wrap ((k : Int) + 1) = (k : Int) + 1 := by rw [IntKind.wrap_i64]; omega
      have hn0 : ¬ n = 0 := by omega
      have hn1 : ¬ (n : Int) = 0 := by omega
      have hmb : m ≤ 2048 := by have := insL_len xs q (List.range k); rw [List.length_range] at this; omega
      have htm : ((k : Int) + 1).tmod (n : Int) = (((k + 1) % n : Nat) : Int) := by
        rw [show (k : Int) + 1 = ((k + 1 : Nat) : Int) by omega]
        rfl
      have hrl : (k + 1) % n < n := Nat.mod_lt _ (by omega)
      have hns : insL xs q (List.range (k + 1)) = insL xs q (List.range k) ++ ptAt xs k :: (if onB (ptAt xs k) (ptAt xs ((k + 1) % n)) q = true then [q] else []) := by
        rw [List.range_succ, insL_snoc, insK_out (by have := HR.out.2.1; omega) HR.out.2.2.2.2, HR.out.2.1]
      have hpg := ptAt_good HR.out.2.2.1 k
      have hqg := ptAt_good HR.out.2.2.1 ((k + 1) % n)
      generalize (k + 1) % n = r at *
      have hrl' : (r : Int) < (n : Int) := by omega
      have hwr : IntKind.i64.wrap (r : Int) = (r : Int) := IntWalk.i64_in _ (by omega)
      obtain ⟨ad, rfl, -, -, -, -⟩ := HR.out.1.pt hlt
      obtain ⟨hbd, p1, p2⟩ := ((HR.out.1.below HW.out.1).more HW.out.1.size).ptA hlt
      obtain ⟨-, p3, p4⟩ := ((HR.out.1.below HW.out.1).more HW.out.1.size).ptA hrl
      generalize ptAt xs k = p at *
      generalize ptAt xs r = p' at *
      have kO : ∀ V, Calls Tryz.prog 116 #[.agg #[.int .i64 p.x, .int .i64 p.y], .agg #[.int .i64 p'.x, .int .i64 p'.y], .agg #[.int .i64 q.x, .int .i64 q.y]] V fun e w' => e = .returned (.bool (onB p p' q)) ∧ Below V.heap.size V w' := fun V => onR6 p.x p.y p'.x p'.y q.x q.y V hpg hqg HR.out.2.2.2.1
      obtain ⟨ob, hob⟩ : ∃ b, b = onB p p' q := ⟨_, rfl⟩
      simp only [← hob] at kO
      rw [← hob] at hns
      clear hob
      have hown := HW.out.2.2
      have hbel := HW.out.1
      have HNS := Lib.hid (And.intro hns hm)
      have HPP := Lib.hid (And.intro p1 (And.intro p2 (And.intro p3 (And.intro p4 hbd))))
      clear hns hm hpg hqg p3 p4 hbd
      go_upto_region 8 with (at_builtin; refine wpList_append_any _ rfl (.tmp 18) (.tmp 23) _ rfl (w.heap.size + 1) 35 i0 _ 2 16 Tryz.underlying23 hi0 hz0 hz1 hz2 rfl (by omega) (.slice A' m c) m _ rfl (hown.alloc _) (wr.alloc (.cells #[.int .i64 p.x, .int .i64 p.y] 35)).heap.size (some ⟨wr.heap.size, 0, none⟩) 1 1 (ptsV [p]) rfl (Reads.made wr _ _ _ 2 1 _ rfl rfl) (ptsV_one _) (by simp only [maxLen]; omega) (by omega) (by simp; have := hbel.size; omega) ?_; intro v6 w6 hown6 hg6 hat6)
      have hB6 : Below w.heap.size w w6 := (hbel.alloc hbel.size _).grown hg6 (by simp; have := hbel.size; omega) (fun g hg => by have := (hown.lt g hg).1; omega)
      have hK6 : PtK w6 w.heap.size q := box_grown HW.out.2.1 hg6 (fun b e => by have := (hown.lt b e).1; omega)
      have hb6 : Below wr.heap.size wr w6 → True := fun _ => trivial
      have hcell : ∀ a v, a.block < w.heap.size → wr.cell? a = some v → w6.cell? a = some v := fun a v ha hv => (hB6.cell (p := a) ha).trans ((hbel.cell (p := a) ha).symm.trans hv)
      rw [← ptsV_append] at hown6
      obtain ⟨A6, c6, rfl⟩ := own_form hown6
      have hadl : ad.block < w.heap.size := by obtain ⟨ad', e, h1, -⟩ := HR.out.1.2 (by omega); cases e; exact h1
      obtain ⟨q1, q2, -, -, -⟩ := PtK.facts hK6
      have hP0 : w6.drew.cell? (ad.add (k * 2)) = some (.int .i64 p.x) ∧ w6.drew.cell? ⟨(ad.add (k * 2)).block, (ad.add (k * 2)).off + 1, none⟩ = some (.int .i64 p.y) ∧ w6.drew.cell? (ad.add (r * 2)) = some (.int .i64 p'.x) ∧ w6.drew.cell? ⟨(ad.add (r * 2)).block, (ad.add (r * 2)).off + 1, none⟩ = some (.int .i64 p'.y) ∧ w6.drew.cell? ⟨w.heap.size, 0, none⟩ = some (.int .i64 q.x) ∧ w6.drew.cell? ⟨w.heap.size, 1, none⟩ = some (.int .i64 q.y) ∧ Below w6.heap.size w6 w6.drew := ⟨hcell _ _ (by rw [block_of_add]; exact hadl) HPP.out.1, hcell _ _ (by simp only [block_of_add]; exact hadl) HPP.out.2.1, hcell _ _ (by rw [block_of_add]; exact hadl) HPP.out.2.2.1, hcell _ _ (by simp only [block_of_add]; exact hadl) HPP.out.2.2.2.1, q1, q2, (Below.refl _ _).drew⟩
      have hh : (ad.add (k * 2)).block < w6.heap.size ∧ (⟨(ad.add (k * 2)).block, (ad.add (k * 2)).off + 1, none⟩ : Addr).block < w6.heap.size ∧ (ad.add (r * 2)).block < w6.heap.size ∧ (⟨(ad.add (r * 2)).block, (ad.add (r * 2)).off + 1, none⟩ : Addr).block < w6.heap.size ∧ (⟨w.heap.size, 0, none⟩ : Addr).block < w6.heap.size ∧ (⟨w.heap.size, 1, none⟩ : Addr).block < w6.heap.size := by
        have h1 := hB6.size
        have h2 := Blk.lt hK6
        simp only [block_of_add]
        exact ⟨by omega, by omega, by omega, by omega, h2, h2⟩
      have H6 := Lib.hid (And.intro hB6 (And.intro hK6 hown6))
      have HAD := Lib.hid hadl
      clear hB6 hK6 hb6 hcell hadl q1 q2 hown6 hg6 hat6 hown hbel HW p1 p2 HPP
      refine wp_region_held_drew (S := fun V => V.cell? (ad.add (k * 2)) = some (.int .i64 p.x) ∧ V.cell? ⟨(ad.add (k * 2)).block, (ad.add (k * 2)).off + 1, none⟩ = some (.int .i64 p.y) ∧ V.cell? (ad.add (r * 2)) = some (.int .i64 p'.x) ∧ V.cell? ⟨(ad.add (r * 2)).block, (ad.add (r * 2)).off + 1, none⟩ = some (.int .i64 p'.y) ∧ V.cell? ⟨w.heap.size, 0, none⟩ = some (.int .i64 q.x) ∧ V.cell? ⟨w.heap.size, 1, none⟩ = some (.int .i64 q.y) ∧ Below w6.heap.size w6 V) (by kernel_rfl) ?_ (fun hHeld => ?_)
      · exact hP0
      refine tk 0 ?_
      refine tk 1 ?_
      refine tk 2 ?_
      refine tk 3 ?_
      refine tk 4 ?_
      refine tk 5 ?_
      refine tk 6 ?_
      refine tk 7 ?_
      refine tk 8 ?_
      refine tk 9 ?_
      refine tk 10 ?_
      refine tk 11 ?_
      refine tk 12 ?_
      refine wpAnyH_ready (rs := [13]) (by kernel_rfl) (by simp) ?_
      refine AllReadyH.cons rfl (fun K hK => ?_) AllReadyH.nil
      go_simp
      go_at_call 116
      (with_reducible refine (kO _).mono ?_)
      rintro e w8 ⟨rfl, hb''⟩
      try dsimp only
      refine hK.out _ _ ?_ (fun hHeld => ?_)
      · exact hldw6 hh hP0 hb''
      clear hK K
      try simp only [Act.put, List.setIfInBounds_toArray, List.set_cons_zero, List.set_cons_succ]
      refine wpAnyH_done (by kernel_rfl) ?_ _
      have hbV := hHeld.2.2.2.2.2.2
      clear hP0 hHeld hh
      have H8 := Lib.hid (And.intro (below_on H6.out.1 (Nat.le_refl _) hbV) (And.intro (show PtK w8 w.heap.size q from Blk.below H6.out.2.1 hbV (Blk.lt H6.out.2.1)) (own_below H6.out.2.2 hbV)))
      clear hbV hb''
      rcases ob with _ | _
      · have hi : insL xs q (List.range (k + 1)) = insL xs q (List.range k) ++ [p] := by rw [HNS.out.1]; rfl
        have HI := Lib.hid hi
        clear hi
        go_wp2_with fail
        go_roundw
        case rel => exact ⟨k + 1, by omega, by go_num, A6, c6, m + 1, rfl, by rw [HI.out, List.length_append, ← HNS.out.2]; rfl, by rw [HI.out]; exact H8⟩
        case measure => simp [intOf]; omega
      · have hi : insL xs q (List.range (k + 1)) = (insL xs q (List.range k) ++ [p]) ++ [q] := by rw [HNS.out.1, List.append_assoc]; rfl
        have HI := Lib.hid hi
        have hown := H8.out.2.2
        have hbel := H8.out.1
        obtain ⟨q1, q2, -, -, -⟩ := PtK.facts H8.out.2.1
        clear hi
        go_wp2_with (at_builtin; refine wpList_append_any _ rfl (.tmp 39) (.tmp 41) _ rfl (w.heap.size + 1) 35 i0 _ 2 16 Tryz.underlying23 hi0 hz0 hz1 hz2 rfl (by omega) (.slice A6 (m + 1) c6) (m + 1) _ rfl (hown.alloc _) (w8.alloc (.cells #[.int .i64 q.x, .int .i64 q.y] 35)).heap.size (some ⟨w8.heap.size, 0, none⟩) 1 1 (ptsV [q]) rfl (Reads.made w8 _ _ _ 2 1 _ rfl rfl) (ptsV_one _) (by simp only [maxLen]; omega) (by omega) (by simp; have := hbel.size; omega) ?_; intro v6 w9 hown6 hg6 hat6)
        have hB9 : Below w.heap.size w w9 := (hbel.alloc hbel.size _).grown hg6 (by simp; have := hbel.size; omega) (fun g hg => by have := (hown.lt g hg).1; omega)
        have hK9 : PtK w9 w.heap.size q := box_grown H8.out.2.1 hg6 (fun b e => by have := (hown.lt b e).1; omega)
        rw [← ptsV_append] at hown6
        obtain ⟨A9, c9, rfl⟩ := own_form hown6
        have H9 := Lib.hid (And.intro hB9 (And.intro hK9 hown6))
        clear hB9 hK9 hown6 hg6 hat6 hown hbel q1 q2 H8
        go_wp2_with fail
        go_roundw
        case rel => exact ⟨k + 1, by omega, by go_num, A9, c9, m + 1 + 1, rfl, by rw [HI.out, List.length_append, List.length_append, ← HNS.out.2]; rfl, by rw [HI.out]; exact H9⟩
        case measure => simp [intOf]; omega
    · have hkn : k = n := by omega
      subst hkn
      have hig : insL xs q (List.range k) = insG q xs := by unfold insG; rw [HR.out.2.1]
      rw [hig] at HW hm
      subst hm
      have HF := Lib.hid (And.intro HW.out.1 (own_mono HW.out.2.2 (Nat.le_succ _)))
      clear HW hig
      go_wp2_with fail
      go_ret
      exact ⟨A', c, rfl, HF.out.2, HF.out.1⟩
end Go.Proofs.YtnpjggcgnbgkjaaGreat
namespace Go.Proofs.YtnpjggcgnbgkjaaGreat
open Go.RowKit Go.Lib
theorem lst_idem (xs : List Pt) : lst (lst xs) = lst xs := by
  rcases Nat.eq_zero_or_pos xs.length with h0 | h0
  · have : xs = [] := List.eq_nil_of_length_eq_zero h0
    subst this
    rfl
  · have hk := leastN_lt xs (m := xs.length) h0
    have hf := leastN_first xs xs.length
    have hl := lst_len xs
    have hz : leastN (lst xs) (lst xs).length = 0 := by
      rw [hl]
      have hf2 := leastN_first (lst xs) xs.length
      have hi := leastN_lt (lst xs) (m := xs.length) h0
      generalize leastN (lst xs) xs.length = i at *
      rcases Nat.eq_zero_or_pos i with h1 | h1
      · exact h1
      · exfalso
        have e0 : ptAt (lst xs) 0 = ptAt xs (leastN xs xs.length) := by
          unfold lst
          rw [ptAt_rot hk h0, Nat.add_zero, Nat.mod_eq_of_lt hk]
        have ei : ptAt (lst xs) i = ptAt xs ((leastN xs xs.length + i) % xs.length) := by
          unfold lst
          rw [ptAt_rot hk hi]
        have h2 := hf2.1 0 h0
        have h3 := hf.1 ((leastN xs xs.length + i) % xs.length) (Nat.mod_lt _ h0)
        rw [← ei, ← e0] at h3
        have h4 : ordI (ptAt (lst xs) i) (ptAt (lst xs) 0) ≤ 0 := by
          by_cases h : 0 < ordI (ptAt (lst xs) i) (ptAt (lst xs) 0)
          · exact absurd (ordI_anti h) h2
          · omega
        have h5 : ordI (ptAt (lst xs) 0) (ptAt (lst xs) i) ≤ 0 := by
          by_cases h : 0 < ordI (ptAt (lst xs) 0) (ptAt (lst xs) i)
          · exact absurd (ordI_anti h) h3
          · omega
        exact hf2.2 0 h1 (ordI_both h5 h4)
    show rot (leastN (lst xs) (lst xs).length) (lst xs) = lst xs
    rw [hz]
    simp [rot]
end Go.Proofs.YtnpjggcgnbgkjaaGreat

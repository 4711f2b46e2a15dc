/- cut.fault: the model. (The walk is not begun.); Plain law: two stretches with a point within both have more in common than one end. Rotations of a ring without repetition; bend.begin, bend.done, bend.Mark: the walks. -/
import Derived.Test.YtmegmokjjlelgaaGreatK11
import Derived.Test.YtmegmokjjlelgaaGreatK13
import Derived.Test.YtmegmokjjlelgaaGreatK16
import Derived.Test.YtmegmokjjlelgaaGreatK18
import Derived.Test.YtmegmokjjlelgaaGreatK19
import Derived.Test.YtmegmokjjlelgaaGreatK22
import Derived.Test.YtmegmokjjlelgaaGreatK28
import Derived.Test.YtmegmokjjlelgaaGreatK34
namespace Go.Proofs.YtmegmokjjlelgaaGreat
/-- The error of what is asked of a cut. -/
noncomputable def faultI (p : Plan) (id : Int) (path : List Pt) (fresh : Int) : Int :=
  if planB p = false then 2 else if atP p.parcels id < 0 then 5 else if idB fresh = false ∨ path.length < 2 ∨ 128 < path.length then 1 else if 0 ≤ atP p.parcels fresh then 6 else if goodL path = false then 3 else
  if ptAt path 0 = ptAt path (path.length - 1) ∨ sideI (pcAt p.parcels (atP p.parcels id).toNat).ring (ptAt path 0) ≠ 0 ∨ sideI (pcAt p.parcels (atP p.parcels id).toNat).ring (ptAt path (path.length - 1)) ≠ 0 then 7 else 0
theorem faultI_zero {p : Plan} {id fresh : Int} {path : List Pt} (h : faultI p id path fresh = 0) : SoundP p ∧ (∃ k : Nat, k < p.parcels.length ∧ atP p.parcels id = (k : Int) ∧ (pcAt p.parcels k).id = id ∧ sideI (pcAt p.parcels k).ring (ptAt path 0) = 0 ∧ sideI (pcAt p.parcels k).ring (ptAt path (path.length - 1)) = 0) ∧ idB fresh = true ∧ 2 ≤ path.length ∧ path.length ≤ 128 ∧ atP p.parcels fresh < 0 ∧ goodL path = true ∧ ptAt path 0 ≠ ptAt path (path.length - 1) := by
  unfold faultI at h
  split at h
  · cases h
  rename_i h1
  split at h
  · cases h
  rename_i h2
  split at h
  · cases h
  rename_i h3
  split at h
  · cases h
  rename_i h4
  split at h
  · cases h
  rename_i h5
  split at h
  · cases h
  rename_i h6
  rcases atP_cases p.parcels id with ⟨e, -⟩ | ⟨k, hk, e, hid⟩
  · omega
  rw [e, Int.toNat_natCast] at h6
  have hs : SoundP p := by
    have : planB p = true := by simpa using h1
    unfold planB at this
    simpa using this
  have hf : idB fresh = true := Classical.byContradiction fun hn => h3 (.inl (by simpa using hn))
  have ha : ¬ path.length < 2 := fun hn => h3 (.inr (.inl hn))
  have hb : ¬ 128 < path.length := fun hn => h3 (.inr (.inr hn))
  refine ⟨hs, ⟨k, hk, e, hid, ?_, ?_⟩, hf, by omega, by omega, by omega, by simpa using h5, fun hn => h6 (.inl hn)⟩
  · exact Classical.byContradiction fun hn => h6 (.inr (.inl hn))
  · exact Classical.byContradiction fun hn => h6 (.inr (.inr hn))
end Go.Proofs.YtmegmokjjlelgaaGreat
namespace Go.Proofs.YtmegmokjjlelgaaGreat
theorem par0 {ux uy vx vy wx wy : Int} (h1 : ux * vy - uy * vx = 0) (h2 : vx * wy - vy * wx = 0) (hv : vx ≠ 0 ∨ vy ≠ 0) : ux * wy - uy * wx = 0 := by
  rcases hv with h | h
  · have e : vx * (ux * wy - uy * wx) = ux * (vx * wy - vy * wx) + wx * (ux * vy - uy * vx) := by grind
    rw [h1, h2] at e
    rcases Int.mul_eq_zero.1 (e.trans (by simp)) with h3 | h3
    · exact absurd h3 h
    · exact h3
  · have e : vy * (ux * wy - uy * wx) = uy * (vx * wy - vy * wx) + wy * (ux * vy - uy * vx) := by grind
    rw [h1, h2] at e
    rcases Int.mul_eq_zero.1 (e.trans (by simp)) with h3 | h3
    · exact absurd h3 h
    · exact h3
theorem pt_sub_ne {p q : Pt} (h : p ≠ q) : p.x - q.x ≠ 0 ∨ p.y - q.y ≠ 0 := by
  by_cases hx : p.x = q.x
  · by_cases hy : p.y = q.y
    · exact absurd (by obtain ⟨a, b⟩ := p; obtain ⟨c, d⟩ := q; simp at hx hy; rw [hx, hy]) h
    · exact .inr (by omega)
  · exact .inl (by omega)
/-- Two points of two straight lines: all four ends lie on one. -/
theorem line_of {a b c d e q : Pt} (hcd : c ≠ d) (heq : e ≠ q) (h1 : cr a b e = 0) (h2 : cr a b q = 0) (h3 : cr c d e = 0) (h4 : cr c d q = 0) : cr a b c = 0 ∧ cr a b d = 0 := by
  unfold cr at *
  have k1 : (b.x - a.x) * (e.y - q.y) - (b.y - a.y) * (e.x - q.x) = 0 := by grind
  have k2 : (e.x - q.x) * (d.y - c.y) - (e.y - q.y) * (d.x - c.x) = 0 := by grind
  have k3 := par0 k1 k2 (pt_sub_ne heq)
  have k4 : (d.x - c.x) * (q.y - c.y) - (d.y - c.y) * (q.x - c.x) = 0 := h4
  have k5 := par0 k3 k4 (pt_sub_ne (Ne.symm hcd))
  have k6 : (d.x - c.x) * (q.y - d.y) - (d.y - c.y) * (q.x - d.x) = 0 := by grind
  have k7 := par0 k3 k6 (pt_sub_ne (Ne.symm hcd))
  exact ⟨by grind, by grind⟩
/-- A point within a stretch: on it, and neither of its ends. -/
def inS (a b q : Pt) : Prop := onB a b q = true ∧ q ≠ a ∧ q ≠ b
theorem inS.swap {a b q : Pt} (h : inS a b q) : inS b a q := ⟨by rw [onB_swap]; exact h.1, h.2.2, h.2.1⟩
theorem inS_ne {a b q : Pt} (h : inS a b q) : a ≠ b := fun e => by
  subst e
  have h1 := (onB_iff a a q).1 h.1
  apply h.2.1
  obtain ⟨x, y⟩ := q
  obtain ⟨u, v⟩ := a
  simp only [Pt.mk.injEq]
  simp only at h1
  omega
theorem key_lt_or {p q : Pt} (hp : good p = true) (hq : good q = true) (h : p ≠ q) : key p < key q ∨ key q < key p := by
  rcases key_ord hp hq with h1 | h1 | h1
  · exact .inl h1.1
  · exact .inr h1.1
  · exact absurd h1.1 h
theorem inS_touch {a b c d q : Pt} (ha : good a = true) (hb : good b = true) (hc : good c = true) (hd : good d = true) (h1 : inS a b q) (h2 : inS c d q) : meetR a b c d ≠ 0 := fun h => by
  apply (meet_zero (a := a) (b := b) (c := c) (d := d)).1 h
  obtain ⟨N, t, n1, n2, n3, n4, n5⟩ := on_param h1.1
  obtain ⟨M, s, m1, m2, m3, m4, m5⟩ := on_param h2.1
  have hs : 0 ≤ M - s := by omega
  have ht : 0 ≤ N - t := by omega
  have ht2 := Int.mul_le_mul_of_nonneg_right n3 (Int.le_of_lt m1)
  refine touch_of_com (N := N * M) (t := t * M) (A := N * (M - s)) (B := N * s) ha hb hc hd ⟨Int.mul_pos n1 m1, Int.mul_nonneg n2 (Int.le_of_lt m1), ht2, Int.mul_nonneg (Int.le_of_lt n1) hs, Int.mul_nonneg (Int.le_of_lt n1) m2, ?_, ?_, ?_⟩
  · grind
  · have e1 : (N * M - t * M) * a.x + t * M * b.x = M * ((N - t) * a.x + t * b.x) := by grind
    have e2 : N * (M - s) * c.x + N * s * d.x = N * ((M - s) * c.x + s * d.x) := by grind
    rw [e1, e2, n4, m4]
    grind
  · have e1 : (N * M - t * M) * a.y + t * M * b.y = M * ((N - t) * a.y + t * b.y) := by grind
    have e2 : N * (M - s) * c.y + N * s * d.y = N * ((M - s) * c.y + s * d.y) := by grind
    rw [e1, e2, n5, m5]
    grind
theorem inS_one {a b c d q : Pt} (ha : good a = true) (hb : good b = true) (hc : good c = true) (hd : good d = true) (hq : good q = true) (h1 : inS a b q) (h2 : inS c d q) : meetR a b c d ≠ 1 := fun h => by
  unfold meetR at h
  have hnd : ¬ difB (endsL a b c d) = true := fun hd' => by rw [if_pos hd'] at h; cases h
  rw [if_neg hnd] at h
  have hne : endsL a b c d ≠ [] := fun hn => by
    rw [if_neg (fun h' => h' hn)] at h
    split at h <;> cases h
  obtain ⟨e, he⟩ := List.exists_mem_of_ne_nil _ hne
  have hab := inS_ne h1
  have hcd := inS_ne h2
  have hends : ∀ x, x ∈ endsL a b c d ↔ (x = a ∧ onB c d a = true) ∨ (x = b ∧ onB c d b = true) ∨ (x = c ∧ onB a b c = true) ∨ (x = d ∧ onB a b d = true) := fun x => by
    unfold endsL
    rcases onB c d a with _ | _ <;> rcases onB c d b with _ | _ <;> rcases onB a b c with _ | _ <;> rcases onB a b d with _ | _ <;> simp
  have heq : e ≠ q := fun e' => by
    rw [e'] at he
    rcases (hends q).1 he with ⟨h', -⟩ | ⟨h', -⟩ | ⟨h', -⟩ | ⟨h', -⟩
    · exact h1.2.1 h'
    · exact h1.2.2 h'
    · exact h2.2.1 h'
    · exact h2.2.2 h'
  obtain ⟨o1, o2⟩ := endsL_mem he
  have z1 := ((onB_iff a b e).1 o1).1
  have z2 := ((onB_iff a b q).1 h1.1).1
  have z3 := ((onB_iff c d e).1 o2).1
  have z4 := ((onB_iff c d q).1 h2.1).1
  obtain ⟨l1, l2⟩ := line_of hcd heq z1 z2 z3 z4
  obtain ⟨l3, l4⟩ := line_of hab heq z3 z4 z1 z2
  have k1 := ((onB_key ha hb hq).1 h1.1).2
  have k2 := ((onB_key hc hd hq).1 h2.1).2
  have s1 := key_lt_or hq ha h1.2.1
  have s2 := key_lt_or hq hb h1.2.2
  have s3 := key_lt_or hq hc h2.2.1
  have s4 := key_lt_or hq hd h2.2.2
  apply hnd
  rw [difB_iff]
  have hA : (key c ≤ key a ∧ key a ≤ key d) ∨ (key d ≤ key a ∧ key a ≤ key c) → a ∈ endsL a b c d := fun h' => (hends a).2 (.inl ⟨rfl, (onB_key hc hd ha).2 ⟨l3, h'⟩⟩)
  have hB : (key c ≤ key b ∧ key b ≤ key d) ∨ (key d ≤ key b ∧ key b ≤ key c) → b ∈ endsL a b c d := fun h' => (hends b).2 (.inr (.inl ⟨rfl, (onB_key hc hd hb).2 ⟨l4, h'⟩⟩))
  have hC : (key a ≤ key c ∧ key c ≤ key b) ∨ (key b ≤ key c ∧ key c ≤ key a) → c ∈ endsL a b c d := fun h' => (hends c).2 (.inr (.inr (.inl ⟨rfl, (onB_key ha hb hc).2 ⟨l1, h'⟩⟩)))
  have hD : (key a ≤ key d ∧ key d ≤ key b) ∨ (key b ≤ key d ∧ key d ≤ key a) → d ∈ endsL a b c d := fun h' => (hends d).2 (.inr (.inr (.inr ⟨rfl, (onB_key ha hb hd).2 ⟨l2, h'⟩⟩)))
  have lo : ∃ x, x ∈ endsL a b c d ∧ key x < key q := by
    by_cases g1 : key a < key q <;> by_cases g2 : key c < key q <;> by_cases g3 : key a ≤ key c <;> by_cases g4 : key a ≤ key d <;> by_cases g5 : key b ≤ key c <;> by_cases g6 : key b ≤ key d <;>
      first
      | exact ⟨a, hA (by omega), by omega⟩
      | exact ⟨b, hB (by omega), by omega⟩
      | exact ⟨c, hC (by omega), by omega⟩
      | exact ⟨d, hD (by omega), by omega⟩
  have hi : ∃ x, x ∈ endsL a b c d ∧ key q < key x := by
    by_cases g1 : key a < key q <;> by_cases g2 : key c < key q <;> by_cases g3 : key a ≤ key c <;> by_cases g4 : key a ≤ key d <;> by_cases g5 : key b ≤ key c <;> by_cases g6 : key b ≤ key d <;>
      first
      | exact ⟨a, hA (by omega), by omega⟩
      | exact ⟨b, hB (by omega), by omega⟩
      | exact ⟨c, hC (by omega), by omega⟩
      | exact ⟨d, hD (by omega), by omega⟩
  obtain ⟨x, hx, hxq⟩ := lo
  obtain ⟨y, hy, hyq⟩ := hi
  exact ⟨x, y, hx, hy, fun e => by rw [e] at hxq; omega⟩
-- rotations
theorem ring_ext {xs ys : List Pt} (hl : xs.length = ys.length) (h : ∀ i, i < xs.length → ptAt xs i = ptAt ys i) : xs = ys := by
  refine List.ext_getElem hl fun i h1 h2 => ?_
  rw [← ptAt_lt h1, ← ptAt_lt h2]
  exact h i h1
theorem nodup_ptAt {xs : List Pt} (hn : xs.Nodup) {i j : Nat} (hi : i < xs.length) (hj : j < xs.length) (h : ptAt xs i = ptAt xs j) : i = j := by
  rw [ptAt_lt hi, ptAt_lt hj] at h
  exact (List.getElem_inj hn).1 h
theorem rot_rot {xs : List Pt} {j k : Nat} (hj : j < xs.length) (hk : k < xs.length) : rot k (rot j xs) = rot ((j + k) % xs.length) xs := by
  have hl := rot_len (k := j) (xs := xs) (by omega)
  have hm : (j + k) % xs.length < xs.length := Nat.mod_lt _ (by omega)
  have hl2 := rot_len (k := k) (xs := rot j xs) (by omega)
  refine ring_ext (by rw [hl2, hl, rot_len (by omega)]) fun i hi => ?_
  rw [hl2, hl] at hi
  rw [ptAt_rot (by omega) (by omega), hl, ptAt_rot hj (Nat.mod_lt _ (by omega)), ptAt_rot hm hi]
  congr 1
  rw [Nat.add_mod_mod, Nat.mod_add_mod, Nat.add_assoc]
theorem ord_eq {a b : Pt} (h1 : ¬ ordI a b < 0) (h2 : ¬ ordI b a < 0) : a = b := by
  obtain ⟨ax, ay⟩ := a
  obtain ⟨bx, bb⟩ := b
  rw [ordI_neg] at h1 h2
  simp only [Pt.mk.injEq]
  simp only at h1 h2
  omega
/-- A ring without repetition that is begun elsewhere is begun at the same least corner. -/
theorem lst_rot {xs : List Pt} (hn : xs.Nodup) {j : Nat} (hj : j < xs.length) : lst (rot j xs) = lst xs := by
  have hl := rot_len (k := j) (xs := xs) (by omega)
  unfold lst
  rw [hl]
  have h1 := (leastN_first xs xs.length).1
  have h2 := (leastN_first (rot j xs) xs.length).1
  have k1 := leastN_lt xs (m := xs.length) (by omega)
  have k2 := leastN_lt (rot j xs) (m := xs.length) (by omega)
  generalize leastN xs xs.length = a at *
  generalize leastN (rot j xs) xs.length = b at *
  rw [rot_rot hj k2]
  have hm : (j + b) % xs.length < xs.length := Nat.mod_lt _ (by omega)
  have e1 : ptAt (rot j xs) b = ptAt xs ((j + b) % xs.length) := ptAt_rot hj k2
  have hc : (j + b) % xs.length = a := by
    refine nodup_ptAt hn hm k1 (ord_eq ?_ ?_)
    · exact h1 _ hm
    · have h3 := h2 ((a + (xs.length - j)) % xs.length) (Nat.mod_lt _ (by omega))
      rw [e1, ptAt_rot hj (Nat.mod_lt _ (by omega)), Nat.add_mod_mod, show j + (a + (xs.length - j)) = a + xs.length by omega, Nat.add_mod_right, Nat.mod_eq_of_lt k1] at h3
      exact h3
  rw [hc]
theorem lst_eq_rot (xs : List Pt) : ∃ j, (xs ≠ [] → j < xs.length) ∧ lst xs = rot j xs := by
  refine ⟨leastN xs xs.length, fun h => leastN_lt xs (List.length_pos_iff.2 h), rfl⟩
-- sound plans
theorem sound_nodup {p : Plan} {xs : List Pt} (hs : SoundP p) (h : ringOf p xs) : xs.Nodup ∧ lst xs = xs ∧ xs ≠ [] := by
  obtain ⟨-, -, h3, hc⟩ := sound_ring hs h
  refine ⟨pairs_nodup (checkI_zero hc).2.2.2.2, ?_, fun e => by rw [e] at h3; simp at h3⟩
  rcases h with rfl | ⟨x, hx, rfl⟩
  · exact hs.2.1.2.symm
  · exact (hs.2.2.1 x hx).2.symm
theorem mem_lst {xs : List Pt} {p : Pt} : p ∈ lst xs ↔ p ∈ xs := by
  refine ⟨lst_mem, fun h => ?_⟩
  obtain ⟨j, -, e⟩ := lst_eq_rot xs
  rw [e]
  unfold rot
  rw [← List.take_append_drop j xs] at h
  rw [List.mem_append] at h ⊢
  exact h.symm
theorem each_sound {g : List Pt → List Pt} {p : Plan} {y : Parc} (hy : y ∈ (eachP g p).parcels) : ∃ x ∈ p.parcels, y = eachX g x := by
  obtain ⟨x, hx, e⟩ := List.mem_map.1 hy
  exact ⟨x, hx, e.symm⟩
end Go.Proofs.YtmegmokjjlelgaaGreat
namespace Go.Proofs.YtmegmokjjlelgaaGreat
open Go.RowKit Go.Lib
theorem res_store {w W : World} {g : Nat} {a b : Value} (hb : Below w.heap.size w W) (hg : w.heap.size ≤ g) (hk : Blk W g 26 #[a, b]) (u v : Value) :
    ∃ V, V = (W.setCell ⟨g, 0, none⟩ u).setCell ⟨g, 1, none⟩ v ∧ V.cell? ⟨g, 0, none⟩ = some u ∧ V.cell? ⟨g, 1, none⟩ = some v ∧ Below w.heap.size w V := by
  have hK := Blk.set_ (Blk.set_ hk 0 u) 1 v
  exact ⟨_, rfl, by rw [Blk.cell hK 0]; rfl, by rw [Blk.cell hK 1]; rfl, (hb.setCell (p := ⟨g, 0, none⟩) hg u).setCell (p := ⟨g, 1, none⟩) hg v⟩
theorem plk_facts4 {W : World} {g : Nat} {a b : Value} (hk : Blk W g 26 #[a, b]) : W.cell? ⟨g, 0, none⟩ = some a ∧ W.cell? ⟨g, 1, none⟩ = some b ∧ W.frozen? ⟨g, 0, none⟩ = false ∧ W.frozen? ⟨g, 1, none⟩ = false := ⟨Blk.cell hk 0, Blk.cell hk 1, Blk.frozen hk 0, Blk.frozen hk 1⟩
def ResPostS (r : Plan) (z : Int) (w : World) (e : Ending) (w' : World) : Prop := ∃ A n c A' n' c' hs, e = .returned (.tuple #[planV A n c A' n' c', .int .i64 z]) ∧ PlanOwn w.heap.size w' A n c A' n' c' r hs ∧ Below w.heap.size w w'
theorem planOwn_nil (B : Nat) (W : World) : PlanOwn B W none 0 0 none 0 0 ⟨[], []⟩ [] := ⟨World.ownsRow_nil _ _ _ _, World.ownsRow_nil _ _ _ _, rfl, rfl, fun j hj => absurd hj (Nat.not_lt_zero _), ⟨⟨by simp, by simp⟩, by simp, by simp⟩⟩
theorem resPostS_no {w V : World} {z : Int} {r : Plan} (hr : r = ⟨[], []⟩) (hb : Below w.heap.size w V) : ResPostS r z w (.returned (.tuple #[planV none 0 0 none 0 0, .int .i64 z])) V := ⟨none, 0, 0, none, 0, 0, [], rfl, by rw [hr]; exact planOwn_nil _ V, hb⟩
-- MARK
end Go.Proofs.YtmegmokjjlelgaaGreat

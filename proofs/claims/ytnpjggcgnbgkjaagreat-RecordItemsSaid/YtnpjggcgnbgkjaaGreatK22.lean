/- Plain law: a corner more on an edge; Items of a plan: the model; of a sound plan no key stands twice. Plain laws; slices.Clone of rings, ring.Norm with the room of its answer: the walks; record.point, merestonelaw14.point: the walks. -/
import Derived.Laws.IdiomStrings
import Derived.Deep.RegionLaw
import Derived.Test.YtnpjggcgnbgkjaaGreatK01
import Derived.Test.YtnpjggcgnbgkjaaGreatK02
import Derived.Test.YtnpjggcgnbgkjaaGreatK07
import Derived.Test.YtnpjggcgnbgkjaaGreatK08
import Derived.Test.YtnpjggcgnbgkjaaGreatK13
import Derived.Test.YtnpjggcgnbgkjaaGreatK19
import Derived.Test.YtnpjggcgnbgkjaaGreatK20
import Derived.Test.YtnpjggcgnbgkjaaGreatK21
namespace Go.Proofs.YtnpjggcgnbgkjaaGreat
end Go.Proofs.YtnpjggcgnbgkjaaGreat
namespace Go.Proofs.YtnpjggcgnbgkjaaGreat
/-- The ring with a corner more behind the k-th. -/
def mark (k : Nat) (p : Pt) (xs : List Pt) : List Pt := xs.take (k + 1) ++ [p] ++ xs.drop (k + 1)
end Go.Proofs.YtnpjggcgnbgkjaaGreat
namespace Go.Proofs.YtnpjggcgnbgkjaaGreat
/-- A point's bytes. -/
def ptB (q : Pt) : List UInt8 := beB (q.x + 1073741824).toNat 4 ++ beB (q.y + 1073741824).toNat 4
/-- A number's bytes. -/
def idBy (id : Int) : List UInt8 := beB id.toNat 4
/-- The points of an item. -/
def chunkB (r : List Pt) (k : Nat) : List UInt8 := ((r.drop (16 * k)).take 16).flatMap ptB
/-- How many items have a ring's points. -/
def chkN (n : Nat) : Nat := (n + 15) / 16
def ringIts (head : List UInt8) (r : List Pt) (s : Nat) : List It := (List.range (chkN r.length)).map fun k => ⟨head ++ [UInt8.ofNat (s + k)], chunkB r k⟩
def edgKy (e : Ed) : List UInt8 := 101 :: (ptB e.a ++ ptB e.b)
def clKey (id : Int) (c : Pt) : List UInt8 := 99 :: UInt8.ofNat (c.x + 128).toNat :: UInt8.ofNat (c.y + 128).toNat :: idBy id
def pcHead (id : Int) : List UInt8 := 112 :: idBy id
noncomputable def parIts (x : Parc) : List It :=
  (⟨pcHead x.id ++ [0], x.owner.data.toList⟩ :: ringIts (pcHead x.id) x.ring 1) ++ ((edgesOf x.ring).map (fun e => ⟨edgKy e, idBy x.id⟩) ++ (cellsL x.ring).map (fun c => ⟨clKey x.id c, []⟩))
noncomputable def planIts (p : Plan) : List It := ringIts [111] p.outer 0 ++ p.parcels.flatMap parIts
theorem beB_inj {a b s : Nat} (ha : a < 256 ^ s) (hb : b < 256 ^ s) (h : beB a s = beB b s) : a = b := by
  have h1 := congrArg numL h
  rw [numL_beB, numL_beB, Nat.mod_eq_of_lt ha, Nat.mod_eq_of_lt hb] at h1
  exact h1
theorem idBy_len (id : Int) : (idBy id).length = 4 := beB_length _ _
theorem ptB_len (q : Pt) : (ptB q).length = 8 := by unfold ptB; rw [List.length_append, beB_length, beB_length]
theorem idBy_inj {a b : Int} (ha : idB a = true) (hb : idB b = true) (h : idBy a = idBy b) : a = b := by
  unfold idB at ha hb
  simp only [decide_eq_true_eq] at ha hb
  have := beB_inj (a := a.toNat) (b := b.toNat) (s := 4) (by omega) (by omega) h
  omega
theorem ptB_inj {a b : Pt} (ha : good a = true) (hb : good b = true) (h : ptB a = ptB b) : a = b := by
  rw [good_iff] at ha hb
  unfold ptB at h
  obtain ⟨h1, h2⟩ := List.append_inj h (by rw [beB_length, beB_length])
  have e1 := beB_inj (s := 4) (by omega) (by omega) h1
  have e2 := beB_inj (s := 4) (by omega) (by omega) h2
  rcases a with ⟨a, a'⟩
  rcases b with ⟨b, b'⟩
  simp only at ha hb e1 e2
  rw [show a = b by omega, show a' = b' by omega]
theorem edgKy_inj {e f : Ed} (h1 : good e.a = true) (h2 : good e.b = true) (h3 : good f.a = true) (h4 : good f.b = true) (h : edgKy e = edgKy f) : e = f := by
  unfold edgKy at h
  obtain ⟨h5, h6⟩ := List.append_inj (List.cons.inj h).2 (by rw [ptB_len, ptB_len])
  rcases e with ⟨a, b⟩
  rcases f with ⟨c, d⟩
  simp only at *
  rw [ptB_inj h1 h3 h5, ptB_inj h2 h4 h6]
theorem ringIts_keys (head : List UInt8) (r : List Pt) (s : Nat) : (ringIts head r s).map (·.k) = (List.range (chkN r.length)).map fun k => head ++ [UInt8.ofNat (s + k)] := by
  unfold ringIts
  rw [List.map_map]
  rfl
theorem chkN_le {n m : Nat} (h : n ≤ 16 * m) : chkN n ≤ m := by unfold chkN; omega
theorem nodup_map_inj {α β : Type} {f : α → β} {l : List α} (hn : l.Nodup) (h : ∀ x ∈ l, ∀ y ∈ l, f x = f y → x = y) : (l.map f).Nodup := by
  induction l with
  | nil => exact List.nodup_nil
  | cons a l ih =>
    rw [List.nodup_cons] at hn
    rw [List.map_cons, List.nodup_cons]
    refine ⟨fun hm => ?_, ih hn.2 fun x hx y hy => h x (List.mem_cons_of_mem _ hx) y (List.mem_cons_of_mem _ hy)⟩
    obtain ⟨y, hy, e⟩ := List.mem_map.1 hm
    have := h y (List.mem_cons_of_mem _ hy) a (List.mem_cons_self ..) e
    exact hn.1 (this ▸ hy)
theorem ringIts_nodup (head : List UInt8) (r : List Pt) (s : Nat) (h : r.length ≤ 128) (_hs : s ≤ 1) : ((ringIts head r s).map (·.k)).Nodup := by
  rw [ringIts_keys]
  refine nodup_map_inj List.nodup_range fun i hi j hj e => ?_
  rw [List.mem_range] at hi hj
  have hc := chkN_le (n := r.length) (m := 8) (by omega)
  have e1 := congrArg UInt8.toNat (List.cons.inj (List.append_cancel_left e)).1
  simp only [UInt8.toNat_ofNat'] at e1
  omega
theorem cell_key {v : Win} {c : Pt} (hc : c ∈ spanC v) : -4 ≤ c.x ∧ c.x ≤ 4 ∧ -4 ≤ c.y ∧ c.y ≤ 4 := by
  unfold spanC at hc
  split at hc
  case isFalse => simp at hc
  case isTrue hv =>
    obtain ⟨⟨b1, b2, b3⟩, b4, b5, b6⟩ := win_good hv
    unfold spanW at hc
    obtain ⟨k, hk, rfl⟩ := List.mem_iff_getElem.1 hc
    rw [spanR_get]
    rw [spanR_length] at hk
    have hm : 0 < nRow v := by
      rcases Nat.eq_zero_or_pos (nRow v) with h0 | h0
      · rw [h0] at hk; simp at hk
      · exact h0
    have h1 : k / nRow v < nCol v := Nat.div_lt_of_lt_mul (by rw [Nat.mul_comm]; exact hk)
    have h2 : k % nRow v < nRow v := Nat.mod_lt _ hm
    generalize k / nRow v = q at *
    generalize k % nRow v = r at *
    unfold nCol at h1
    unfold nRow at h2
    simp only
    omega
theorem spanC_nodup (v : Win) : (spanC v).Nodup := by
  unfold spanC
  split
  case isFalse => exact List.nodup_nil
  case isTrue hv =>
    unfold spanW
    refine List.pairwise_iff_getElem.2 fun i j hi hj hij e => ?_
    rw [spanR_get, spanR_get] at e
    have e1 := congrArg Pt.x e
    have e2 := congrArg Pt.y e
    simp only at e1 e2
    have d1 := Nat.div_add_mod i (nRow v)
    have d2 := Nat.div_add_mod j (nRow v)
    have e3 : i / nRow v = j / nRow v := by omega
    have e4 : i % nRow v = j % nRow v := by omega
    rw [e3, e4] at d1
    omega
end Go.Proofs.YtnpjggcgnbgkjaaGreat
namespace Go.Proofs.YtnpjggcgnbgkjaaGreat
open Go.RowKit
end Go.Proofs.YtnpjggcgnbgkjaaGreat
namespace Go.Proofs.YtnpjggcgnbgkjaaGreat
theorem cornN_eq (n : Nat) (ps : List Parc) : cornN n ps = n + (allE ps).length := by
  induction ps generalizing n with
  | nil => rfl
  | cons x r ih =>
    rw [cornN_cons, ih]
    unfold allE
    rw [List.flatMap_cons, List.length_append, edgesOf_len]
    omega
theorem listed_bd {p : Plan} (h : listedB p = true) : 1 ≤ p.parcels.length ∧ p.parcels.length ≤ 64 ∧ p.outer.length + (allE p.parcels).length ≤ 1024 := by
  unfold listedB at h
  rw [Bool.and_eq_true, Bool.and_eq_true, Bool.and_eq_true, decide_eq_true_eq, decide_eq_true_eq, decide_eq_true_eq, cornN_eq] at h
  omega
theorem normB_iff {xs : List Pt} : normB xs = true ↔ NormedP xs := by unfold normB; simp
theorem matchB_iff {p : Plan} : matchB p = true ↔ MatchP p := by unfold matchB; simp
theorem goodL_mem {xs : List Pt} (h : goodL xs = true) {p : Pt} (hp : p ∈ xs) : good p = true := by
  unfold goodL at h
  exact List.all_eq_true.1 h p hp
theorem edges_ok {xs : List Pt} (h : checkI xs = 0) : ∀ e ∈ edgesOf xs, e.a ≠ e.b ∧ (good e.a = true ∧ good e.b = true) := by
  obtain ⟨-, h1, h2, -, h3⟩ := checkI_zero h
  have hn := pairs_nodup h3
  intro e he
  unfold edgesOf at he
  rw [List.mem_map] at he
  obtain ⟨k, hk, rfl⟩ := he
  rw [List.mem_range] at hk
  have hk2 : (k + 1) % xs.length < xs.length := Nat.mod_lt _ (by omega)
  simp only
  rw [ptAt_lt hk, ptAt_lt hk2]
  refine ⟨fun h' => ?_, goodL_mem h1 (List.getElem_mem _), goodL_mem h1 (List.getElem_mem _)⟩
  have hne : k ≠ (k + 1) % xs.length := by
    rcases Nat.lt_or_ge (k + 1) xs.length with h4 | h4
    · rw [Nat.mod_eq_of_lt h4]; omega
    · have h5 : k + 1 = xs.length := by omega
      rw [h5, Nat.mod_self]; omega
  have hp := List.pairwise_iff_getElem.1 hn
  rcases Nat.lt_or_gt_of_ne hne with h4 | h4
  · exact hp _ _ hk hk2 h4 h'
  · exact hp _ _ hk2 hk h4 h'.symm
theorem allE_mem {ps : List Parc} {e : Ed} : e ∈ allE ps ↔ ∃ x ∈ ps, e ∈ edgesOf x.ring := by unfold allE; rw [List.mem_flatMap]
/-- What plan.clean wants of a plan. -/
def PreC (p : Plan) : Prop := (2 ≤ (allE p.parcels).length ∧ (allE p.parcels).length ≤ 1048576) ∧ (∀ e ∈ allE p.parcels, e.a ≠ e.b) ∧ (∀ e ∈ allE p.parcels, good e.a = true ∧ good e.b = true) ∧ (allE p.parcels).Nodup
theorem pre_of {p : Plan} (h1 : listedB p = true) (h3 : ∀ x ∈ p.parcels, NormedP x.ring) (h4 : MatchP p) : PreC p := by
  obtain ⟨b1, b2, b3⟩ := listed_bd h1
  have hE : ∀ e ∈ allE p.parcels, e.a ≠ e.b ∧ (good e.a = true ∧ good e.b = true) := fun e he => by
    obtain ⟨x, hx, hm⟩ := allE_mem.1 he
    exact edges_ok (h3 x hx).1 e hm
  refine ⟨⟨?_, by omega⟩, fun e he => (hE e he).1, fun e he => (hE e he).2, h4.1⟩
  rcases hp : p.parcels with _ | ⟨x, r⟩
  · rw [hp] at b1; simp at b1
  · have := (checkI_zero (h3 x (by rw [hp]; simp)).1).2.2.1
    unfold allE
    rw [List.flatMap_cons, List.length_append, edgesOf_len]
    omega
theorem areas_of {p : Plan} (h2 : NormedP p.outer) (h3 : ∀ x ∈ p.parcels, NormedP x.ring) : areaE p.outer = 0 ∧ ∀ x ∈ p.parcels, areaE x.ring = 0 := by
  have hz : ∀ xs, checkI xs = 0 → areaE xs = 0 := fun xs h => by
    apply Classical.byContradiction
    intro h'
    exact h' (by rw [← checkI_err h']; exact h)
  exact ⟨hz _ h2.1, fun x hx => hz _ (h3 x hx).1⟩
theorem planE_ok {p : Plan} (h : SoundP p) : planE p = 0 := by
  unfold planE planB
  simp [h]
theorem planE_no {p : Plan} (h : ¬ SoundP p) : planE p = 2 := by
  unfold planE planB
  simp [h]
theorem any_norm {p : Plan} : (p.parcels.any fun x => !normB x.ring) = false ↔ ∀ x ∈ p.parcels, NormedP x.ring := by
  rw [List.any_eq_false]
  constructor
  · intro h x hx
    have := h x hx
    rw [Bool.not_eq_true', Bool.not_eq_false] at this
    exact normB_iff.1 this
  · intro h x hx
    rw [normB_iff.2 (h x hx)]
    decide
theorem planE_eq (p : Plan) (b5 : Bool) (h5 : b5 = true ↔ PairsE (allE p.parcels)) :
    planE p = if listedB p = true ∧ normB p.outer = true ∧ (p.parcels.any fun x => !normB x.ring) = false ∧ matchB p = true ∧ b5 = true ∧ decide (areasL p.parcels = areaZ p.outer) = true then 0 else 2 := by
  have hs : SoundP p ↔ listedB p = true ∧ normB p.outer = true ∧ (p.parcels.any fun x => !normB x.ring) = false ∧ matchB p = true ∧ b5 = true ∧ decide (areasL p.parcels = areaZ p.outer) = true := by
    rw [normB_iff, matchB_iff, h5, decide_eq_true_eq, any_norm]
    exact Iff.rfl
  by_cases h : SoundP p
  · rw [planE_ok h, if_pos (hs.1 h)]
  · rw [planE_no h, if_neg (fun h' => h (hs.2 h'))]
end Go.Proofs.YtnpjggcgnbgkjaaGreat
namespace Go.Proofs.YtnpjggcgnbgkjaaGreat
open Go.RowKit
theorem pIn_one {W : World} {B g n c : Nat} {A : Option Addr} {x : Parc} (hb : Blk W g 37 #[.int .i64 x.id, .slice A n c, .string x.owner]) (hr : Reads W B 2 A n (ptsV x.ring)) (h1 : n ≤ c) (h2 : c ≤ 9223372036854775807) (hg : g < B) : PIn W B (some ⟨g, 0, none⟩) 1 [x] := by
  refine ⟨rfl, fun _ => ⟨_, rfl, hg, fun k hk => ?_⟩⟩
  obtain rfl : k = 0 := by omega
  simp only [add_row]
  exact ⟨by rw [Blk.cell hb]; rfl, ⟨A, n, c, by rw [Blk.cell hb]; rfl, hr, h1, h2⟩, by rw [Blk.cell hb]; rfl⟩
end Go.Proofs.YtnpjggcgnbgkjaaGreat
namespace Go.Proofs.YtnpjggcgnbgkjaaGreat
open Go.RowKit Go.Lib
theorem put_num4 (b : List UInt8) {v : Int} (h : 0 ≤ v ∧ v < 4294967296) : putN b v 4 = b ++ beB v.toNat 4 := by
  unfold putN
  have e : (256 : Nat) ^ (4 : Int).toNat = 4294967296 := by decide
  rw [if_neg (by omega)]
  rfl
theorem put_len4 (b : List UInt8) (v : Int) (h : 0 ≤ v ∧ v < 4294967296) : (putN b v 4).length = b.length + 4 := by rw [put_num4 b h, List.length_append, beB_length]
theorem pt_put {b : List UInt8} {q : Pt} (h : good q = true) : putN (putN b (q.x + 1073741824) 4) (q.y + 1073741824) 4 = b ++ ptB q := by
  rw [good_iff] at h
  rw [put_num4 b (by omega), put_num4 _ (by omega), List.append_assoc]
  rfl
theorem hldPt {W V V' : World} {a0 a1 : Addr} {v0 v1 : Value} (hh : a0.block < W.heap.size ∧ a1.block < W.heap.size) (hs : V.cell? a0 = some v0 ∧ V.cell? a1 = some v1 ∧ Below W.heap.size W V) (hb : Below V.heap.size V V') :
    V'.cell? a0 = some v0 ∧ V'.cell? a1 = some v1 ∧ Below W.heap.size W V' := by
  obtain ⟨h0, h1⟩ := hh
  obtain ⟨c0, c1, cb⟩ := hs
  have := cb.size
  have k : ∀ {a : Addr} {v : Value}, a.block < W.heap.size → V.cell? a = some v → V'.cell? a = some v := fun {a v} ha hv => (hb.cell (p := a) (by omega)).trans hv
  exact ⟨k h0 c0, k h1 c1, below_on cb (Nat.le_refl _) hb⟩
set_option maxRecDepth 100000 in
theorem point_any (b : List UInt8) (A : Option Addr) (n cap : Nat) (q : Pt) (hq : good q = true) (w : World) (hr : Reads w w.heap.size 1 A n (u8s b)) (hn : n ≤ 140737488350000) :
    Calls Tryz.prog 152 #[.slice A n cap, ptV q] w (Own8 (b ++ ptB q) w) := by
  have hl := hr.len8
  have hg := (good_iff q).1 hq
  obtain ⟨W, hW⟩ : ∃ W, W = w.alloc (.cells #[.int .i64 q.x, .int .i64 q.y] 35) := ⟨_, rfl⟩
  have hba : Below w.heap.size w W := by rw [hW]; exact (Below.refl _ _).alloc (Nat.le_refl _) _
  have hk : HasPt W w.heap.size q := by rw [hW]; exact HasPt.new w q 35
  have e0 : IntKind.i64.wrap (q.x + 1073741824) = q.x + 1073741824 := by rw [IntKind.wrap_i64]; omega
  have e1 : IntKind.i64.wrap (q.y + 1073741824) = q.y + 1073741824 := by rw [IntKind.wrap_i64]; omega
  have HR : Hid (Reads W.drew W.heap.size 1 A n (u8s b)) := (hr.on hba).drew
  have HQ := Lib.hid hq
  have HG := Lib.hid (And.intro (show q.x + 1073741824 ≤ 9223372036854775807 by omega) (And.intro (show q.y + 1073741824 ≤ 9223372036854775807 by omega) (show (putN b (q.x + 1073741824) 4).length ≤ 140737488354000 by rw [put_len4 b _ (by omega)]; omega)))
  have HB := Lib.hid hba
  obtain ⟨k0, k1, k2⟩ := hk
  have hh : (⟨w.heap.size, 0, none⟩ : Addr).block < W.heap.size ∧ (⟨w.heap.size, 1, none⟩ : Addr).block < W.heap.size := ⟨k2, k2⟩
  have hP0 : W.drew.cell? ⟨w.heap.size, 0, none⟩ = some (.int .i64 q.x) ∧ W.drew.cell? ⟨w.heap.size, 1, none⟩ = some (.int .i64 q.y) ∧ Below W.heap.size W W.drew := ⟨k0, k1, (Below.refl _ _).drew⟩
  have hbd : Below W.heap.size W W.drew := (Below.refl _ _).drew
  clear hg hba hr hl hq k0 k1 k2
  unfold ptV
  go_enter Tryz.func152, Tryz.ntmps152
  go_upto_region 1 with fail
  rw [← hW]
  clear hW
  refine wp_region_held_drew (S := fun V => V.cell? ⟨w.heap.size, 0, none⟩ = some (.int .i64 q.x) ∧ V.cell? ⟨w.heap.size, 1, none⟩ = some (.int .i64 q.y) ∧ Below W.heap.size W V) (by kernel_rfl) ?_ (fun hHeld => ?_)
  · exact hP0
  refine tk 0 ?_
  refine tk 1 ?_
  refine tk 2 ?_
  refine tk 3 ?_
  refine tk 5 ?_
  refine tk 6 ?_
  refine tk 7 ?_
  refine wpAnyH_ready (rs := [4]) (by kernel_rfl) (by simp) ?_
  refine AllReadyH.cons rfl (fun K hK => ?_) AllReadyH.nil
  go_simp
  go_at_call 153
  (with_reducible refine (putNum_any b A n cap (q.x + 1073741824) 4 _ HR.out (by omega) HG.out.1).mono ?_)
  rintro e w1 ⟨A1, c1, rfl, ho1, hb1⟩
  have hB1 := hbd.trans hb1
  try dsimp only
  refine hK.out _ _ ?_ (fun hHeld => ?_)
  · exact hldPt hh hP0 hb1
  clear hK K
  try simp only [Act.put, List.setIfInBounds_toArray, List.set_cons_zero, List.set_cons_succ]
  refine wpAnyH_ready (rs := [8]) (by kernel_rfl) (by simp) ?_
  refine AllReadyH.cons rfl (fun K hK => ?_) AllReadyH.nil
  go_simp
  go_at_call 153
  (with_reducible refine (putNum_any _ A1 _ c1 (q.y + 1073741824) 4 _ (Reads.of_own ho1) HG.out.2.2 HG.out.2.1).mono ?_)
  rintro e w2 ⟨A2, c2, rfl, ho2, hb2⟩
  have hB2 := below_on hB1 (Nat.le_refl _) hb2
  rw [pt_put HQ.out] at *
  try dsimp only
  refine hK.out _ _ ?_ (fun hHeld => ?_)
  · exact hldPt hh hHeld hb2
  clear hK K
  try simp only [Act.put, List.setIfInBounds_toArray, List.set_cons_zero, List.set_cons_succ]
  refine tk 9 ?_
  refine wpAnyH_done (by kernel_rfl) ?_ _
  go_wp2_with fail
  go_ret
  have hs := HB.out.size
  exact ⟨A2, c2, by first | rfl | simp, own_mono ho2 (Nat.le_trans hs hB1.size), below_on HB.out (Nat.le_refl _) hB2⟩
end Go.Proofs.YtnpjggcgnbgkjaaGreat

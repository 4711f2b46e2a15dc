/- plan.Changed: the walk. -/
import Derived.Deep.CutBlock
import Derived.Deep.DeepCutAuto
import Derived.Test.YtgkcenhopmjmlaaGreatChanged
import Derived.Test.YtgkcenhopmjmlaaGreatFirst
import Derived.Test.YtgkcenhopmjmlaaGreatChgSort
namespace Go.Proofs.YtgkcenhopmjmlaaGreat
open Go.RowKit Go.Lib
/-- What has been met of a range over a map, and what was put down. -/
structure SeenC (ks : List Int) (P : Int → Prop) (o0 : List Int) (seen : Array Nat) (out : List Int) : Prop where
  nd : out.Nodup
  mem : ∀ z, z ∈ out ↔ z ∈ o0 ∨ ∃ i, ∃ h : i < ks.length, seen.contains i = true ∧ ks[i] = z ∧ P z
theorem SeenC.start {ks : List Int} {P : Int → Prop} {o0 : List Int} (h : o0.Nodup) : SeenC ks P o0 #[] o0 := ⟨h, fun z => ⟨.inl, fun h => h.elim id (fun ⟨i, _, h, _⟩ => by simp at h)⟩⟩
theorem SeenC.skip {ks : List Int} {P : Int → Prop} {o0 : List Int} {seen : Array Nat} {out : List Int} (h : SeenC ks P o0 seen out) {i : Nat} (hi : i < ks.length) (hp : ¬ P ks[i]) : SeenC ks P o0 (seen.push i) out := by
  refine ⟨h.nd, fun z => ?_⟩
  rw [h.mem]
  refine or_congr Iff.rfl ⟨fun ⟨j, hj, h1, h2⟩ => ⟨j, hj, push_has.2 (.inl h1), h2⟩, fun ⟨j, hj, h1, h2, h3⟩ => ?_⟩
  rcases push_has.1 h1 with h1 | rfl
  · exact ⟨j, hj, h1, h2, h3⟩
  · exact absurd (h2 ▸ h3) hp
theorem SeenC.put {ks : List Int} {P : Int → Prop} {o0 : List Int} {seen : Array Nat} {out : List Int} (h : SeenC ks P o0 seen out) (hk : ks.Nodup) {i : Nat} (hi : i < ks.length) (hs : seen.contains i = false) (hp : P ks[i]) (h0 : ks[i] ∉ o0) : SeenC ks P o0 (seen.push i) (out ++ [ks[i]]) := by
  have hnew : ks[i] ∉ out := fun hm => by
    rcases (h.mem _).1 hm with h1 | ⟨j, hj, h1, h2, -⟩
    · exact h0 h1
    · obtain rfl : j = i := (List.getElem_inj hk).1 h2
      rw [hs] at h1
      cases h1
  refine ⟨?_, fun z => ?_⟩
  · rw [List.nodup_append]
    refine ⟨h.nd, by simp, fun a ha b hb => ?_⟩
    simp at hb
    rintro rfl
    exact hnew (hb ▸ ha)
  · rw [List.mem_append, h.mem, or_assoc]
    refine or_congr Iff.rfl ⟨?_, fun ⟨j, hj, h1, h2, h3⟩ => ?_⟩
    · rintro (⟨j, hj, h1, h2⟩ | hz)
      · exact ⟨j, hj, push_has.2 (.inl h1), h2⟩
      · simp at hz
        exact ⟨i, hi, push_has.2 (.inr rfl), hz.symm, hz ▸ hp⟩
    · rcases push_has.1 h1 with h1 | rfl
      · exact .inl ⟨j, hj, h1, h2, h3⟩
      · exact .inr (by simp [h2])
theorem SeenC.done {ks : List Int} {P : Int → Prop} {o0 : List Int} {seen : Array Nat} {out : List Int} (h : SeenC ks P o0 seen out) (ha : ∀ i, i < ks.length → seen.contains i = true) (z : Int) : z ∈ out ↔ z ∈ o0 ∨ (z ∈ ks ∧ P z) := by
  rw [h.mem]
  refine or_congr Iff.rfl ⟨fun ⟨i, hi, _, h2, h3⟩ => ⟨h2 ▸ List.getElem_mem hi, h3⟩, fun ⟨h1, h2⟩ => ?_⟩
  obtain ⟨i, hi, rfl⟩ := List.getElem_of_mem h1
  exact ⟨i, hi, ha i hi, rfl, h2⟩
theorem SeenC.len {ks : List Int} {P : Int → Prop} {o0 : List Int} {seen : Array Nat} {out : List Int} (h : SeenC ks P o0 seen out) : out.length ≤ o0.length + ks.length := by
  have := h.nd.length_le_of_subset (l₂ := o0 ++ ks) (fun z hz => by
    rcases (h.mem z).1 hz with h1 | ⟨i, hi, -, h2, -⟩
    · exact List.mem_append_left _ h1
    · exact List.mem_append_right _ (h2 ▸ List.getElem_mem hi))
  simpa using this
def LpC (X : World) (r b N : Nat) (seen : Array Nat) (out : List Int) (o : Value) (W : World) : Prop := IterB W r b N seen ∧ Below X.heap.size X W ∧ (∃ A c, o = .slice A out.length c) ∧ W.ownsRow X.heap.size 3 1 o out.length (intsV out) ∧ o.ownBlock ≠ some r
theorem IterB.lt {W : World} {r b n : Nat} {seen : Array Nat} (h : IterB W r b n seen) : r < W.heap.size := (Array.getElem?_eq_some_iff.1 h).1
theorem LpC.on {X : World} {r b N : Nat} {seen : Array Nat} {out : List Int} {o : Value} {W W' : World} (h : LpC X r b N seen out o W) (hb : Below W.heap.size W W') : LpC X r b N seen out o W' :=
  ⟨h.1.kept (hb.block _ h.1.lt), below_on h.2.1 (Nat.le_refl _) hb, h.2.2.1, own_below h.2.2.2.1 hb, h.2.2.2.2⟩
theorem LpC.next {X : World} {r b N : Nat} {seen seen' : Array Nat} {out : List Int} {o : Value} {W W' : World} (h : LpC X r b N seen out o W) (hr : X.heap.size ≤ r) (hi : IterB W' r b N seen') (hg : W.grownBy W' (some r)) : LpC X r b N seen' out o W' := by
  have hne := h.2.2.2.2
  have hs := h.2.1.size
  refine ⟨hi, h.2.1.grown hg h.2.1.size (fun j e => by have := Option.some.inj e; omega), h.2.2.1, ?_, hne⟩
  exact h.2.2.2.1.kept hg (.inr hne)
theorem LpC.push {X : World} {r b N : Nat} {seen : Array Nat} {out : List Int} {o v6 : Value} {W w6 : World} {obj : Obj} {z : Int} (h : LpC X r b N seen out o W) (hown : w6.ownsRow X.heap.size 3 1 v6 (out.length + 1) (intsV out ++ intsV [z])) (hg : (W.alloc obj).grownBy w6 o.ownBlock) (hat : v6.ownBlock = o.ownBlock ∨ v6.ownBlock = some (W.alloc obj).heap.size) : LpC X r b N seen (out ++ [z]) v6 w6 := by
  have hs := h.2.1.size
  have hba : Below W.heap.size W (W.alloc obj) := (Below.refl _ _).alloc (Nat.le_refl _) _
  have h2 := h.on hba
  have hr := h.1.lt
  refine ⟨h2.1.kept (hg.block _ h2.1.lt (fun e => h2.2.2.2.2 e.symm)), h2.2.1.grown hg h2.2.1.size (fun g hg' => (h2.2.2.2.1.lt g hg').1), ?_, ?_, ?_⟩
  · obtain ⟨A, c, e⟩ := own_form hown
    exact ⟨A, c, by rw [e]; simp⟩
  · rw [intsV_append]
    have : (out ++ [z]).length = out.length + 1 := by simp
    rw [this]
    exact hown
  · rcases hat with e | e
    · rw [e]; exact h.2.2.2.2
    · rw [e]
      simp
      omega
theorem LpC.left {X : World} {r b : Nat} {L : List (Int × Value)} {seen : Array Nat} {out : List Int} {o : Value} {W : World} (h : LpC X r b L.length seen out o W) (hm : MapB X b encI L) : leftW W r b = (leftOf (entriesOf encI L) seen).size := leftW_eq h.1 (hm.kept (h.2.1.block _ hm.lt))
theorem LpC.start {X W : World} {b N : Nat} {out : List Int} {o : Value} (hb : Below X.heap.size X W) (hf : ∃ A c, o = .slice A out.length c) (ho : W.ownsRow X.heap.size 3 1 o out.length (intsV out)) : LpC X W.heap.size b N #[] out o (W.alloc (.mapIter (some b) N #[] N)) := by
  refine ⟨heap_alloc_new W _, hb.alloc hb.size _, hf, own_below ho ((Below.refl _ _).alloc (Nat.le_refl _) _), fun e => ?_⟩
  have := (ho.lt _ e).2
  omega
theorem own_less {w : World} {b b' n : Nat} {e : TypeId} {size : Nat} {v : Value} {xs : List Value} (h : w.ownsRow b e size v n xs) (hb : b' ≤ b) : w.ownsRow b' e size v n xs := by
  refine ⟨h.1, ?_⟩
  rcases h.2 with h1 | ⟨g, cap, cur, h1, h2, h3⟩
  · exact .inl h1
  · exact .inr ⟨g, cap, cur, h1, by omega, h3⟩
theorem atP_neg {ps : List Parc} {z : Int} (h : ∀ j, j < ps.length → (pcAt ps j).id ≠ z) : atP ps z < 0 := by rw [atP_none h]; decide
/-- The parcels of the one that are other ones, or none, in the other. -/
def chA (p q : Plan) (z : Int) : Prop := atP q.parcels z < 0 ∨ pcEq (pcAt p.parcels (atP p.parcels z).toNat) (pcAt q.parcels (atP q.parcels z).toNat) = false
def chN (p : Plan) (z : Int) : Prop := atP p.parcels z < 0
def hasP (p : Plan) (z : Int) : Prop := 0 ≤ atP p.parcels z
theorem FirM.mem {ps : List Parc} {B : Nat} {W : World} {L : List (Int × Value)} (h : FirM ps B ps.length W L) (z : Int) : z ∈ L.map (·.1) ↔ 0 ≤ atP ps z := by
  have h1 : z ∉ L.map (·.1) ↔ ∀ j, j < ps.length → (pcAt ps j).id ≠ z := by rw [← look_none, h.none_]
  rcases atP_cases ps z with ⟨e, h2⟩ | ⟨k, hk, e, h2⟩
  · rw [e]
    exact ⟨fun hz => absurd hz (h1.2 h2), fun hz => by omega⟩
  · rw [e]
    refine ⟨fun _ => by omega, fun _ => ?_⟩
    apply Classical.byContradiction
    intro hn
    exact h1.1 hn k hk h2
theorem FirM.more {ps : List Parc} {B B' k : Nat} {W : World} {L : List (Int × Value)} (h : FirM ps B k W L) (hb : B ≤ B') : FirM ps B' k W L :=
  ⟨h.keys, h.none_, fun z j hj ha => by obtain ⟨Ax, nx, cx, h1, h2, h3⟩ := h.some_ z j hj ha; exact ⟨Ax, nx, cx, h1, h2.more hb, h3⟩⟩
def MpX (p q : Plan) (b1 : Nat) (L1 : List (Int × Value)) (b2 : Nat) (L2 : List (Int × Value)) (w X : World) : Prop := MapB X b1 encI L1 ∧ MapB X b2 encI L2 ∧ FirM p.parcels X.heap.size p.parcels.length X L1 ∧ FirM q.parcels X.heap.size q.parcels.length X L2 ∧ Below w.heap.size w X ∧ w.heap.size + 2 ≤ X.heap.size ∧ L1.length ≤ 1048576 ∧ L2.length ≤ 1048576
theorem FirM.len {ps : List Parc} {B : Nat} {W : World} {L : List (Int × Value)} (h : FirM ps B ps.length W L) : L.length ≤ ps.length := by
  have := h.keys.length_le_of_subset (l₂ := ps.map (·.id)) (fun z hz => by
    rcases atP_cases ps z with ⟨e, -⟩ | ⟨k, hk, e, h2⟩
    · have := (h.mem z).1 hz; omega
    · exact List.mem_map.2 ⟨pcAt ps k, by rw [pcAt_lt hk]; exact List.getElem_mem hk, h2⟩)
  simpa using this
theorem hldP4 {W V V' : World} {a0 a1 a2 a3 : Addr} {v0 v1 v2 v3 : Value} (hh : a0.block < W.heap.size ∧ a1.block < W.heap.size ∧ a2.block < W.heap.size ∧ a3.block < W.heap.size) (hs : V.cell? a0 = some v0 ∧ V.cell? a1 = some v1 ∧ V.cell? a2 = some v2 ∧ V.cell? a3 = some v3 ∧ Below W.heap.size W V) (hb : Below V.heap.size V V') :
    V'.cell? a0 = some v0 ∧ V'.cell? a1 = some v1 ∧ V'.cell? a2 = some v2 ∧ V'.cell? a3 = some v3 ∧ Below W.heap.size W V' := by
  obtain ⟨h0, h1, h2, h3⟩ := hh
  obtain ⟨c0, c1, c2, c3, cb⟩ := hs
  have := cb.size
  have k : ∀ {a : Addr} {v : Value}, a.block < W.heap.size → V.cell? a = some v → V'.cell? a = some v := fun {a v} ha hv => (hb.cell (p := a) (by omega)).trans hv
  exact ⟨k h0 c0, k h1 c1, k h2 c2, k h3 c3, below_on cb (Nat.le_refl _) hb⟩
set_option maxRecDepth 100000 in
set_option maxHeartbeats 6400000 in
theorem changedP_any (p q : Plan) (A A' B B' : Option Addr) (n c n' c' m d m' d' : Nat) (w : World) (hp : PlanAt w w.heap.size A n c A' n' c' p) (hq : PlanAt w w.heap.size B m d B' m' d' q) (hn' : n' ≤ 1048576) (hm' : m' ≤ 1048576) :
    Calls Tryz.prog 36 #[planV A n c A' n' c', planV B m d B' m' d'] w fun e w' => ∃ D l, e = .returned D ∧ OwI w l D w' ∧ l.Nodup ∧ l.Pairwise (· ≤ ·) ∧ (∀ z, z ∈ l ↔ (hasP p z ∧ chA p q z) ∨ (hasP q z ∧ chN p z)) ∧ Below w.heap.size w w' := by
  obtain ⟨W, hwa⟩ : ∃ wa : World, wa = (w.alloc (.cells #[.slice A n c, .slice A' n' c'] 26)).alloc (.cells #[.slice B m d, .slice B' m' d'] 26) := ⟨_, rfl⟩
  have hB0 : Below w.heap.size w W := by rw [hwa]; exact ((Below.refl _ _).alloc (Nat.le_refl _) _).alloc (by simp) _
  have hF : CgF p A n c A' n' c' q B m d B' m' d' w W := by
    refine ⟨hB0, by rw [hwa]; simp, by rw [hwa]; exact Blk.alloc (PlK.new w A n c A' n' c') _, ?_, hp.below hB0, hq.below hB0⟩
    have := PlK.new (w.alloc (.cells #[.slice A n c, .slice A' n' c'] 26)) B m d B' m' d'
    rw [World.size_alloc] at this
    rw [hwa]
    exact this
  have H0 := Lib.hid hF
  have HL := Lib.hid (And.intro hp.lens.2.1 hq.lens.2.1)
  have kA := fun V (hV : Below W.heap.size W V) => first_any p A A' n c n' c' V (H0.out.to hV).one hn'
  have kB := fun V (hV : Below W.heap.size W V) => first_any q B B' m d m' d' V (H0.out.to hV).two hm'
  obtain ⟨q1, q2, q3⟩ := hF.2.2.1.facts
  obtain ⟨z1, z2, z3⟩ := hF.2.2.2.1.facts
  have hP0 : W.drew.cell? ⟨w.heap.size, 0, none⟩ = some (.slice A n c) ∧ W.drew.cell? ⟨w.heap.size, 1, none⟩ = some (.slice A' n' c') ∧ W.drew.cell? ⟨w.heap.size + 1, 0, none⟩ = some (.slice B m d) ∧ W.drew.cell? ⟨w.heap.size + 1, 1, none⟩ = some (.slice B' m' d') ∧ Below W.heap.size W W.drew := ⟨q1, q2, z1, z2, (Below.refl _ _).drew⟩
  have hh : (⟨w.heap.size, 0, none⟩ : Addr).block < W.heap.size ∧ (⟨w.heap.size, 1, none⟩ : Addr).block < W.heap.size ∧ (⟨w.heap.size + 1, 0, none⟩ : Addr).block < W.heap.size ∧ (⟨w.heap.size + 1, 1, none⟩ : Addr).block < W.heap.size := ⟨q3, q3, z3, z3⟩
  clear hF hp hq hB0 q1 q2 q3 z1 z2 z3
  go_enter Tryz.func36, Tryz.ntmps36
  go_upto_region 1 with fail
  rw [← hwa]
  clear hwa
  go_cut [5, 6] (fun x y wx => ∃ b1 L1 b2 L2, x = .map (some b1) ∧ y = .map (some b2) ∧ MapB wx b1 encI L1 ∧ MapB wx b2 encI L2 ∧ FirM p.parcels wx.heap.size n' wx L1 ∧ FirM q.parcels wx.heap.size m' wx L2 ∧ Below W.heap.size W wx)
  case first =>
    refine wp_region_held_drew (S := fun V => V.cell? ⟨w.heap.size, 0, none⟩ = some (.slice A n c) ∧ V.cell? ⟨w.heap.size, 1, none⟩ = some (.slice A' n' c') ∧ V.cell? ⟨w.heap.size + 1, 0, none⟩ = some (.slice B m d) ∧ V.cell? ⟨w.heap.size + 1, 1, none⟩ = some (.slice B' m' d') ∧ Below W.heap.size W V) (by kernel_rfl) ?_ (fun hHeld => ?_)
    · exact hP0
    refine tk 0 ?_
    refine tk 2 ?_
    refine wpAnyH_ready (rs := [1]) (by kernel_rfl) (by simp) ?_
    refine AllReadyH.cons rfl (fun K hK => ?_) AllReadyH.nil
    go_simp
    go_at_call 81
    (with_reducible refine (kA _ (Below.refl _ _).drew).mono ?_)
    rintro e w1 ⟨b1, L1, rfl, hm1, hf1, hg1, hb1⟩
    try dsimp only
    refine hK.out _ _ ?_ (fun hHeld => ?_)
    · exact hldP4 hh hHeld hb1
    clear hK K
    try simp only [Act.put, List.setIfInBounds_toArray, List.set_cons_zero, List.set_cons_succ]
    refine wpAnyH_ready (rs := [3]) (by kernel_rfl) (by simp) ?_
    refine AllReadyH.cons rfl (fun K hK => ?_) AllReadyH.nil
    go_simp
    go_at_call 81
    (with_reducible refine (kB _ hHeld.2.2.2.2).mono ?_)
    rintro e w2 ⟨b2, L2, rfl, hm2, hf2, hg2, hb2⟩
    try dsimp only
    refine hK.out _ _ ?_ (fun hHeld => ?_)
    · exact hldP4 hh hHeld hb2
    clear hK K
    try simp only [Act.put, List.setIfInBounds_toArray, List.set_cons_zero, List.set_cons_succ]
    refine tk 4 ?_
    refine tk 5 ?_
    refine wpAnyH_done (by kernel_rfl) ?_ _
    go_wp2_with fail
    go_meet
    exact ⟨b1, L1, b2, L2, rfl, rfl, hm1.kept (hb2.block _ hm1.lt), hm2, ((hf1.more hb1.size).below hb2).more hb2.size, hf2.more hb2.size, hHeld.2.2.2.2⟩
  case rest =>
    obtain ⟨X, rfl⟩ : ∃ X, X = wc := ⟨_, rfl⟩
    obtain ⟨b1, L1, b2, L2, rfl, rfl, hm1, hm2, hf1, hf2, hbc⟩ := hcut
    rw [← HL.out.1] at hf1
    rw [← HL.out.2] at hf2
    have HM := Lib.hid (show MpX p q b1 L1 b2 L2 w X from ⟨hm1, hm2, hf1, hf2, (H0.out.to hbc).1, by have := (H0.out.to hbc).2.1; omega, by have := hf1.len; have := HL.out.1; omega, by have := hf2.len; have := HL.out.2; omega⟩)
    clear hm1 hm2 hf1 hf2 hbc kA kB hP0 hh H0 HL
    obtain ⟨i0, hi0, hz0, hz1, hz2⟩ := info_parts info_i
    have hrg : Sem.run Tryz.prog (Instr.range 105 (.map (some b1))) X = .ok (.pointer (some ⟨X.heap.size, 0, none⟩)) (X.alloc (.mapIter (some b1) L1.length #[] L1.length)) := run_range_map Tryz.underlying105 HM.out.1
    have hC0 : LpC X X.heap.size b1 L1.length #[] [] (.slice none 0 0) (X.alloc (.mapIter (some b1) L1.length #[] L1.length)) := LpC.start (Below.refl _ _) ⟨none, 0, rfl⟩ (World.ownsRow_nil _ _ _ _)
    obtain ⟨Y, hY⟩ : ∃ Y, Y = X.alloc (.mapIter (some b1) L1.length #[] L1.length) := ⟨_, rfl⟩
    rw [← hY] at hC0
    have HC0 := Lib.hid hC0
    clear hC0
    go_upto_block 0 with fail
    rw [← hY]
    clear hY hrg
    go_cut [7] (fun o wx => ∃ out, (∃ A c, o = .slice A out.length c) ∧ wx.ownsRow X.heap.size 3 1 o out.length (intsV out) ∧ Below X.heap.size X wx ∧ Hid (out.Nodup ∧ out.length ≤ L1.length ∧ (∀ z, z ∈ out ↔ z ∈ L1.map (·.1) ∧ chA p q z)))
    case first =>
      go_wp2_with fail
      go_loopw [7] (fun o wr => ∃ seen out, Hid (LpC X X.heap.size b1 L1.length seen out o wr) ∧ Hid (SeenC (L1.map (·.1)) (chA p q) [] seen out)) (fun _ wr => leftW wr X.heap.size b1)
      case atStart => exact ⟨#[], [], HC0, SeenC.start List.nodup_nil⟩
      case round =>
        clear HC0
        obtain ⟨seen, out, hC, hS⟩ := hrel
        obtain ⟨Ao, co, rfl⟩ := hC.out.2.2.1
        have hlen := hS.out.len
        simp only [List.length_map, List.length_nil, Nat.zero_add] at hlen
        have hl1 := HM.out.2.2.2.2.2.2.1
        have em : MapB wr b1 encI L1 := HM.out.1.kept (hC.out.2.1.block _ HM.out.1.lt)
        rcases run_next_map_ (P := Tryz.prog) hC.out.1 em with ⟨hall, hnx⟩ | ⟨i, hil, hsn, W', hnx, hI', em', hg', hsz', hlf⟩
        · have HE := Lib.hid (And.intro hC.out (And.intro hS.out.nd (fun z => (hS.out.done (fun i hi => hall i (by simpa using hi)) z))))
          clear hS hall hC em
          go_wp2_with fail
          go_meet
          exact ⟨out, HE.out.1.2.2.1, HE.out.1.2.2.2.1, HE.out.1.2.1, HE.out.2.1, hlen, fun z => (HE.out.2.2 z).trans (by simp)⟩
        · have hC' := hC.out.next (Nat.le_refl _) hI' hg'
          have hent := run_entry_map_ (P := Tryz.prog) hI' em' hil
          obtain ⟨z, hz⟩ : ∃ z, z = L1[i].1 := ⟨_, rfl⟩
          obtain ⟨v, hv⟩ : ∃ v, v = L1[i].2 := ⟨_, rfl⟩
          have hlook : look L1 z = some v := look_of HM.out.2.2.1.keys (by rw [hz, hv]; exact List.getElem_mem hil)
          rw [← hz, ← hv] at hnx hent
          obtain ⟨j, Ax, nx, cx, hj, haj, rfl, hrx, hxc⟩ := HM.out.2.2.1.form (Nat.le_refl _) hlook
          obtain ⟨x, hx⟩ : ∃ x, x = pcAt p.parcels j := ⟨_, rfl⟩
          rw [← hx] at hnx hent hrx
          have hnx' : ∀ ty, Sem.run Tryz.prog (Instr.next (.pointer (some ⟨X.heap.size, 0, none⟩)) false ty) wr = .ok (.tuple #[.bool true, .int .i64 z, .agg #[.int .i64 x.id, .slice Ax nx cx, .string x.owner]]) W' := hnx
          have hent' : Sem.run Tryz.prog (Instr.entry (.pointer (some ⟨X.heap.size, 0, none⟩))) W' = .ok (.tuple #[.int .i64 z, .agg #[.int .i64 x.id, .slice Ax nx cx, .string x.owner]]) W' := hent
          have hlk : ∃ (zp : Parc) (Az : Option Addr) (nz cz : Nat) (tb : Bool), Hid ((tb = false → atP q.parcels z < 0) ∧ (tb = true → ∃ t : Nat, t < q.parcels.length ∧ atP q.parcels z = (t : Int) ∧ zp = pcAt q.parcels t ∧ Reads X X.heap.size 2 Az nz (ptsV zp.ring) ∧ nz ≤ cz ∧ cz ≤ 9223372036854775807)) ∧ ∀ V, MapB V b2 encI L2 → Sem.run Tryz.prog (Instr.lookup 105 (.map (some b2)) (.int .i64 z) true) V = .ok (.tuple #[.agg #[.int .i64 zp.id, .slice Az nz cz, .string zp.owner], .bool tb]) V := by
            rcases hq : look L2 z with _ | v
            · exact ⟨⟨0, [], ⟨#[]⟩⟩, none, 0, 0, false, ⟨fun _ => atP_neg ((HM.out.2.2.2.1.none_ z).1 hq), (fun h => by cases h)⟩, fun V hV => run_lookI_out Tryz.underlying105 Tryz.zeroValue38 hV hq⟩
            · obtain ⟨t, Az, nz, cz, h1, h2, rfl, h4⟩ := HM.out.2.2.2.1.form (Nat.le_refl _) hq
              exact ⟨pcAt q.parcels t, Az, nz, cz, true, ⟨(fun h => by cases h), fun _ => ⟨t, h1, h2, rfl, h4⟩⟩, fun V hV => run_lookI_in Tryz.underlying105 hV hq⟩
          obtain ⟨zp, Az, nz, cz, tb, HT, hlk⟩ := hlk
          obtain ⟨chg, hchg⟩ : ∃ b : Bool, b = (!tb || (!decide (x.owner = zp.owner) || !decide (x.ring = zp.ring))) := ⟨_, rfl⟩
          have HCH : Hid (chg = true ↔ chA p q z) := by
            show _ ↔ _
            unfold chA
            rw [haj, hchg]
            rcases tb with _ | _
            · simp [HT.out.1 rfl]
            · obtain ⟨t, ht, hat, e, -⟩ := HT.out.2 rfl
              have e1 : x.id = z := by
                rcases atP_cases p.parcels z with ⟨e, -⟩ | ⟨k, -, e, e2⟩
                · omega
                · obtain rfl : k = j := by omega
                  rw [hx]; exact e2
              have e2 : zp.id = z := by
                rcases atP_cases q.parcels z with ⟨e3, -⟩ | ⟨k, -, e3, e4⟩
                · omega
                · obtain rfl : k = t := by omega
                  rw [e]; exact e4
              rw [hat, Int.toNat_natCast, Int.toNat_natCast, ← hx, ← e, pcEq_parts, e1, e2]
              have : ¬ (t : Int) < 0 := by omega
              by_cases ho : x.owner = zp.owner <;> simp [this, ho]
          have HG := Lib.hid hchg
          have hba : Below W'.heap.size W' (W'.alloc (.cells #[.int .i64 x.id, .slice Ax nx cx, .string x.owner] 38)) := (Below.refl _ _).alloc (Nat.le_refl _) _
          have H5 := Lib.hid (And.intro (hC'.on hba) (PcK.new W' x Ax nx cx))
          rw [hC'.left HM.out.1, hC.out.left HM.out.1] at hlf
          have HS := Lib.hid (And.intro hS.out (And.intro hsn (And.intro hlf (And.intro hz (And.intro hrx hxc)))))
          obtain ⟨W5, hW5⟩ : ∃ V, V = W'.alloc (.cells #[.int .i64 x.id, .slice Ax nx cx, .string x.owner] 38) := ⟨_, rfl⟩
          obtain ⟨g, hg⟩ : ∃ g, g = W'.heap.size := ⟨_, rfl⟩
          rw [← hW5, ← hg] at H5
          have HL1 : Hid (leftW wr X.heap.size b1 = (leftOf (entriesOf encI L1) seen).size) := hC.out.left HM.out.1
          clear hba hC' hnx hent hlook hrx hxc hx hz hv hlf hsn hI' em' hg' hsz' em hC hS haj hj hchg
          go_upto_region 6 with fail
          rw [← hW5, ← hg]
          clear hW5 hg hnx' hent'
          have hlk1 := hlk W5 (HM.out.2.1.kept (H5.out.1.2.1.block _ HM.out.2.1.lt))
          clear hlk
          have hba : Below W5.heap.size W5 (W5.alloc (.cells #[.int .i64 zp.id, .slice Az nz cz, .string zp.owner] 38)) := (Below.refl _ _).alloc (Nat.le_refl _) _
          have H6 := Lib.hid (And.intro (H5.out.1.on hba) (And.intro (show PcK _ g x Ax nx cx from Blk.below H5.out.2 hba (Blk.lt H5.out.2)) (PcK.new W5 zp Az nz cz)))
          obtain ⟨W6, hW6⟩ : ∃ V, V = W5.alloc (.cells #[.int .i64 zp.id, .slice Az nz cz, .string zp.owner] 38) := ⟨_, rfl⟩
          obtain ⟨gz, hgz⟩ : ∃ g, g = W5.heap.size := ⟨_, rfl⟩
          rw [← hW6, ← hgz] at H6
          clear hba H5
          go_upto_region 7 with fail
          rw [← hW6, ← hgz]
          clear hW6 hgz hlk1
          go_cut [48] (fun s wx => s = .bool chg ∧ Below W6.heap.size W6 wx)
          case first =>
            obtain ⟨a1, a2, a3, -⟩ := (show PcK W6 g x Ax nx cx from H6.out.2.1).facts
            obtain ⟨d1, d2, d3, -⟩ := (show PcK W6 gz zp Az nz cz from H6.out.2.2).facts
            rcases tb with _ | _
            · have hcg : Hid (chg = true) := by rw [HG.out]; rfl
              clear HG
              go_wp2_with fail
              go_meet
              exact ⟨by rw [hcg.out], Below.refl _ _⟩
            · obtain ⟨t, -, -, -, hrz, hc1, hc2⟩ := HT.out.2 rfl
              by_cases ho : x.owner = zp.owner
              · have hcg : Hid (chg = !decide (x.ring = zp.ring)) := by show chg = _; rw [HG.out]; simp [ho]
                have KE := Lib.hid (eqPts_any x.ring zp.ring Ax Az nx nz cx cz W6 ((HS.out.2.2.2.2.1.below H6.out.1.2.1).more H6.out.1.2.1.size) ((hrz.below H6.out.1.2.1).more H6.out.1.2.1.size) (by have := HS.out.2.2.2.2.2; omega) (by omega))
                rw [← ho] at d3
                clear HG hrz ho
                go_wp2_with fail
                refine KE.out.mono ?_
                rintro e w7 ⟨rfl, hb7⟩
                have hb7' := Lib.hid hb7
                clear hb7 KE a1 a2 a3 d1 d2 d3
                go_wp2_with fail
                go_meet
                exact ⟨by rw [hcg.out], hb7'.out⟩
              · have hcg : Hid (chg = true) := by show chg = _; rw [HG.out]; simp [ho]
                have ho2 : ¬ x.owner.toList = zp.owner.toList := fun h => ho (by rw [ByteArray.toList_eq, ByteArray.toList_eq] at h; exact Go.WideShapes.bytes_inj h)
                clear HG hrz
                go_wp2_with fail
                go_meet
                exact ⟨by rw [hcg.out], Below.refl _ _⟩
          case rest =>
            obtain ⟨W9, rfl⟩ : ∃ V, V = wc := ⟨_, rfl⟩
            obtain ⟨rfl, hbc⟩ := hcut
            have H9 := Lib.hid (H6.out.1.on hbc)
            clear hbc H6
            have hks : (L1.map (·.1))[i]'(by simpa using hil) = z := by rw [List.getElem_map]; exact HS.out.2.2.2.1.symm
            have hbx := H9.out.2.1.size
            have hix : i < (L1.map (·.1)).length := by simpa using hil
            rcases chg with _ | _
            · have hS2 := HS.out.1.skip hix (by rw [hks]; exact fun h => by have := HCH.out.2 h; cases this)
              have HF := Lib.hid (And.intro H9.out (And.intro hS2 HS.out.2.2.1))
              clear hS2 hks
              go_wp2_with fail
              go_roundw
              case rel => exact ⟨seen.push i, out, HF.out.1, HF.out.2.1⟩
              case measure => rw [HF.out.1.left HM.out.1, HL1.out]; exact HF.out.2.2
            · have hS2 := HS.out.1.put HM.out.2.2.1.keys hix HS.out.2.1 (by rw [hks]; exact HCH.out.1 rfl) List.not_mem_nil
              rw [hks] at hS2
              have HF := Lib.hid (And.intro hS2 HS.out.2.2.1)
              clear hS2 hks
              go_wp2_with (at_builtin; refine wpList_append_any _ rfl (.tmp 49) (.tmp 51) _ rfl X.heap.size 3 i0 _ 1 8 Tryz.underlying46 hi0 hz0 hz1 hz2 rfl (by omega) (.slice Ao out.length co) out.length _ rfl ((H9.out.2.2.2.1).alloc _) (W9.alloc (.cells #[.int .i64 z] 3)).heap.size (some ⟨W9.heap.size, 0, none⟩) 1 1 (intsV [z]) rfl (Reads.made W9 #[.int .i64 z] 3 (0, 0) 1 1 (intsV [z]) rfl rfl) (intsV_one z) (by simp only [maxLen]; omega) (by omega) (by simp; omega) ?_; intro v6 w6 hown6 hg6 hat6; have H6 := Lib.hid (LpC.push H9.out hown6 hg6 hat6); clear hown6 hg6 hat6)
              go_roundw
              case rel => exact ⟨seen.push i, out ++ [z], H6, HF.out.1⟩
              case measure => rw [H6.out.left HM.out.1, HL1.out]; exact HF.out.2
    case rest =>
      obtain ⟨X1, rfl⟩ : ∃ X, X = wc := ⟨_, rfl⟩
      obtain ⟨out0, ⟨A0, c0, rfl⟩, hown0, hb0, hO⟩ := hcut
      have hm2 : MapB X1 b2 encI L2 := HM.out.2.1.kept (hb0.block _ HM.out.2.1.lt)
      have hrg : Sem.run Tryz.prog (Instr.range 105 (.map (some b2))) X1 = .ok (.pointer (some ⟨X1.heap.size, 0, none⟩)) (X1.alloc (.mapIter (some b2) L2.length #[] L2.length)) := run_range_map Tryz.underlying105 hm2
      have hC0 : LpC X X1.heap.size b2 L2.length #[] out0 (.slice A0 out0.length c0) (X1.alloc (.mapIter (some b2) L2.length #[] L2.length)) := LpC.start hb0 ⟨A0, c0, rfl⟩ hown0
      obtain ⟨Y1, hY⟩ : ∃ Y, Y = X1.alloc (.mapIter (some b2) L2.length #[] L2.length) := ⟨_, rfl⟩
      rw [← hY] at hC0
      have HC1 := Lib.hid hC0
      obtain ⟨r, hr⟩ : ∃ r, r = X1.heap.size := ⟨_, rfl⟩
      rw [← hr] at HC1
      have HR : Hid (X.heap.size ≤ r) := by rw [hr]; exact hb0.size
      clear hC0 hm2 hown0 hb0 HC0
      go_upto_block 2 with fail
      rw [← hY, ← hr]
      clear hY hrg hr
      go_cut [7] (fun o wx => ∃ out, (∃ A c, o = .slice A out.length c) ∧ wx.ownsRow X.heap.size 3 1 o out.length (intsV out) ∧ Below X.heap.size X wx ∧ Hid (out.Nodup ∧ out.length ≤ 2097152 ∧ (∀ z, z ∈ out ↔ z ∈ out0 ∨ (z ∈ L2.map (·.1) ∧ chN p z))))
      case first =>
        go_wp2_with fail
        go_loopw [7] (fun o wr => ∃ seen out, Hid (LpC X r b2 L2.length seen out o wr) ∧ Hid (SeenC (L2.map (·.1)) (chN p) out0 seen out)) (fun _ wr => leftW wr r b2)
        case atStart => exact ⟨#[], out0, HC1, SeenC.start hO.out.1⟩
        case round =>
          clear HC1
          obtain ⟨seen, out, hC, hS⟩ := hrel
          obtain ⟨Ao, co, rfl⟩ := hC.out.2.2.1
          have hlen := hS.out.len
          simp only [List.length_map] at hlen
          have hl1 := HM.out.2.2.2.2.2.2.1
          have hl2 := HM.out.2.2.2.2.2.2.2
          have hl0 := hO.out.2.1
          have em : MapB wr b2 encI L2 := HM.out.2.1.kept (hC.out.2.1.block _ HM.out.2.1.lt)
          rcases run_next_map_ (P := Tryz.prog) hC.out.1 em with ⟨hall, hnx⟩ | ⟨i, hil, hsn, W', hnx, hI', em', hg', hsz', hlf⟩
          · have HE := Lib.hid (And.intro hC.out (And.intro hS.out.nd (fun z => (hS.out.done (fun i hi => hall i (by simpa using hi)) z))))
            clear hS hall hC em
            go_wp2_with fail
            go_meet
            exact ⟨out, HE.out.1.2.2.1, HE.out.1.2.2.2.1, HE.out.1.2.1, HE.out.2.1, by omega, HE.out.2.2⟩
          · have hC' := hC.out.next HR.out hI' hg'
            have hent := run_entry_map_ (P := Tryz.prog) hI' em' hil
            obtain ⟨z, hz⟩ : ∃ z, z = L2[i].1 := ⟨_, rfl⟩
            obtain ⟨v, hv⟩ : ∃ v, v = L2[i].2 := ⟨_, rfl⟩
            have hlook : look L2 z = some v := look_of HM.out.2.2.2.1.keys (by rw [hz, hv]; exact List.getElem_mem hil)
            rw [← hz, ← hv] at hnx hent
            obtain ⟨j, Ax, nx, cx, hj, haj, rfl, hrx, hxc⟩ := HM.out.2.2.2.1.form (Nat.le_refl _) hlook
            obtain ⟨x, hx⟩ : ∃ x, x = pcAt q.parcels j := ⟨_, rfl⟩
            rw [← hx] at hnx hent
            have hnx' : ∀ ty, Sem.run Tryz.prog (Instr.next (.pointer (some ⟨r, 0, none⟩)) false ty) wr = .ok (.tuple #[.bool true, .int .i64 z, .agg #[.int .i64 x.id, .slice Ax nx cx, .string x.owner]]) W' := hnx
            have hent' : Sem.run Tryz.prog (Instr.entry (.pointer (some ⟨r, 0, none⟩))) W' = .ok (.tuple #[.int .i64 z, .agg #[.int .i64 x.id, .slice Ax nx cx, .string x.owner]]) W' := hent
            have hlk : ∃ (zp : Parc) (Az : Option Addr) (nz cz : Nat) (tb : Bool), Hid (tb = false ↔ chN p z) ∧ ∀ V, MapB V b1 encI L1 → Sem.run Tryz.prog (Instr.lookup 105 (.map (some b1)) (.int .i64 z) true) V = .ok (.tuple #[.agg #[.int .i64 zp.id, .slice Az nz cz, .string zp.owner], .bool tb]) V := by
              rcases hq : look L1 z with _ | v
              · exact ⟨⟨0, [], ⟨#[]⟩⟩, none, 0, 0, false, ⟨fun _ => atP_neg ((HM.out.2.2.1.none_ z).1 hq), fun _ => rfl⟩, fun V hV => run_lookI_out Tryz.underlying105 Tryz.zeroValue38 hV hq⟩
              · obtain ⟨t, Az, nz, cz, h1, h2, rfl, h4⟩ := HM.out.2.2.1.form (Nat.le_refl _) hq
                exact ⟨pcAt p.parcels t, Az, nz, cz, true, ⟨(fun h => by cases h), fun h => by unfold chN at h; omega⟩, fun V hV => run_lookI_in Tryz.underlying105 hV hq⟩
            obtain ⟨zp, Az, nz, cz, tb, HT, hlk⟩ := hlk
            have HL1 : Hid (leftW wr r b2 = (leftOf (entriesOf encI L2) seen).size) := hC.out.left HM.out.2.1
            rw [hC'.left HM.out.2.1, hC.out.left HM.out.2.1] at hlf
            have HS := Lib.hid (And.intro hS.out (And.intro hsn (And.intro hlf hz)))
            have H5 := Lib.hid hC'
            clear hC' hnx hent hlook hrx hxc hx hz hv hlf hsn hI' em' hg' hsz' em hC hS haj hj
            go_upto_region 12 with fail
            clear hnx' hent'
            have hlk1 := hlk W' (HM.out.1.kept (H5.out.2.1.block _ HM.out.1.lt))
            clear hlk
            have hba : Below W'.heap.size W' (W'.alloc (.cells #[.int .i64 zp.id, .slice Az nz cz, .string zp.owner] 38)) := (Below.refl _ _).alloc (Nat.le_refl _) _
            have H9 := Lib.hid (H5.out.on hba)
            obtain ⟨W9, hW9⟩ : ∃ V, V = W'.alloc (.cells #[.int .i64 zp.id, .slice Az nz cz, .string zp.owner] 38) := ⟨_, rfl⟩
            rw [← hW9] at H9
            clear hba H5
            go_upto_region 13 with fail
            rw [← hW9]
            clear hW9 hlk1
            have hks : (L2.map (·.1))[i]'(by simpa using hil) = z := by rw [List.getElem_map]; exact HS.out.2.2.2.symm
            have hbx := H9.out.2.1.size
            have hix : i < (L2.map (·.1)).length := by simpa using hil
            rcases tb with _ | _
            · have hno : z ∉ out0 := fun h => by
                have h1 := ((hO.out.2.2 z).1 h).1
                have h2 := (HM.out.2.2.1.mem z).1 h1
                have h3 := HT.out.1 rfl
                unfold chN at h3
                omega
              have hS2 := HS.out.1.put HM.out.2.2.2.1.keys hix HS.out.2.1 (by rw [hks]; exact HT.out.1 rfl) (by rw [hks]; exact hno)
              rw [hks] at hS2
              have HF := Lib.hid (And.intro hS2 HS.out.2.2.1)
              clear hS2 hks hno
              go_wp2_with (at_builtin; refine wpList_append_any _ rfl (.tmp 67) (.tmp 69) _ rfl X.heap.size 3 i0 _ 1 8 Tryz.underlying46 hi0 hz0 hz1 hz2 rfl (by omega) (.slice Ao out.length co) out.length _ rfl ((H9.out.2.2.2.1).alloc _) (W9.alloc (.cells #[.int .i64 z] 3)).heap.size (some ⟨W9.heap.size, 0, none⟩) 1 1 (intsV [z]) rfl (Reads.made W9 #[.int .i64 z] 3 (0, 0) 1 1 (intsV [z]) rfl rfl) (intsV_one z) (by simp only [maxLen]; omega) (by omega) (by simp; omega) ?_; intro v6 w6 hown6 hg6 hat6; have H6 := Lib.hid (LpC.push H9.out hown6 hg6 hat6); clear hown6 hg6 hat6)
              go_roundw
              case rel => exact ⟨seen.push i, out ++ [z], H6, HF.out.1⟩
              case measure => rw [H6.out.left HM.out.2.1, HL1.out]; exact HF.out.2
            · have hS2 := HS.out.1.skip hix (by rw [hks]; exact fun h => by have := HT.out.2 h; cases this)
              have HF := Lib.hid (And.intro H9.out (And.intro hS2 HS.out.2.2.1))
              clear hS2 hks
              go_wp2_with fail
              go_roundw
              case rel => exact ⟨seen.push i, out, HF.out.1, HF.out.2.1⟩
              case measure => rw [HF.out.1.left HM.out.2.1, HL1.out]; exact HF.out.2.2
      case rest =>
        obtain ⟨X2, rfl⟩ : ∃ X, X = wc := ⟨_, rfl⟩
        obtain ⟨out, ⟨A2, c2, rfl⟩, hown, hb2, hO2⟩ := hcut
        have KS := Lib.hid (sortI_any out A2 out.length c2 X.heap.size X2 hown (by have := hO2.out.2.1; omega))
        have hbs := Lib.hid (And.intro hb2.size (And.intro HM.out.2.2.2.2.1 hb2))
        clear hown HC1 HR hb2
        go_wp2_with fail
        refine KS.out.mono ?_
        rintro e w8 ⟨rfl, l, hlp, hls, hlo, hlb⟩
        have hbl := hlb X.heap.size (Nat.le_refl _) hbs.out.1
        have HE := Lib.hid (And.intro hlp (And.intro hls (And.intro hlo (below_on hbs.out.2.1 (Nat.le_refl _) (hbs.out.2.2.trans hbl)))))
        clear hlp hls hlo hlb hbl KS
        go_wp2_with fail
        go_ret
        refine ⟨_, l, rfl, ⟨A2, out.length, c2, rfl, HE.out.1.length_eq.symm, own_less HE.out.2.2.1 HM.out.2.2.2.2.2.1⟩, HE.out.1.nodup_iff.2 hO2.out.1, HE.out.2.1, fun z => ?_, HE.out.2.2.2⟩
        rw [HE.out.1.mem_iff, hO2.out.2.2, hO.out.2.2, HM.out.2.2.1.mem, HM.out.2.2.2.1.mem]
        rfl
end Go.Proofs.YtgkcenhopmjmlaaGreat

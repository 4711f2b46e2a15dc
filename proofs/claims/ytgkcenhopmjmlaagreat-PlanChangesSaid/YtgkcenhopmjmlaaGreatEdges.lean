/- ring.Edges: the iterator's contract: for every loop body that keeps the ring. -/
/- A ring's corners in memory, by their numbers. -/
/- ring.Edges: its maker, and its word for whoever ranges over it. -/
import Derived.IntWalk
import Derived.LoopIn
import Derived.LoopNIn
import Derived.Outline
import Derived.OwnWalkIn
import Derived.RangeFuncBound
import Derived.RangeFuncCalls
import Derived.RangeFuncLeaves
import Derived.RangeFuncNested
import Derived.Shelf.Abstract
import Derived.Shelf.RegionOpen
import Derived.Stop.RegionWithIn
import Derived.TacticsInMore
import Derived.Test.YtgkcenhopmjmlaaGreatPtW
namespace Go.Proofs.YtgkcenhopmjmlaaGreat
open Go.RowKit Go.Shelf
attribute [local go_sem] Oper.semAt_some
/-- What the iterator asks of a round that goes on: all below B is as it was, and so is the block of its own. -/
def KeepE (B Bs : Nat) (W W' : World) : Prop := W.heap.size ≤ W'.heap.size ∧ ∀ i, i < B ∨ i = Bs → W'.heap[i]? = W.heap[i]?
theorem KeepE.refl (B Bs : Nat) (W : World) : KeepE B Bs W W := ⟨Nat.le_refl _, fun _ _ => rfl⟩
theorem KeepE.trans {B Bs : Nat} {W W' W'' : World} (h : KeepE B Bs W W') (k : KeepE B Bs W' W'') : KeepE B Bs W W'' := ⟨Nat.le_trans h.1 k.1, fun i hi => (k.2 i hi).trans (h.2 i hi)⟩
theorem KeepE.cell {B Bs : Nat} {W W' : World} (h : KeepE B Bs W W') {p : Addr} (hp : p.block < B ∨ p.block = Bs) : W'.cell? p = W.cell? p := World.cell?_of_block (h.2 p.block hp)
theorem KeepE.reads {B Bs n : Nat} {W W' : World} {A : Option Addr} {xs : List Value} {sz : Nat} (h : KeepE B Bs W W') (hr : Reads W B sz A n xs) : Reads W' B sz A n xs := hr.keep fun _ hp => h.cell (.inl hp)
theorem KeepE.alloc {B Bs : Nat} {W : World} (hB : B ≤ W.heap.size) (hs : Bs < W.heap.size) (o : Obj) : KeepE B Bs W (W.alloc o) := ⟨by simp, fun i hi => Below.heap_alloc W o i (by omega)⟩
theorem KeepE.drew {B Bs : Nat} {W W' : World} (h : KeepE B Bs W W') : KeepE B Bs W W'.drew := h
/-- What leaves all older blocks as they were keeps these. -/
theorem KeepE.below {B Bs : Nat} {W W' : World} (hb : Below W.heap.size W W') (hB : B ≤ W.heap.size) (hs : Bs < W.heap.size) : KeepE B Bs W W' := ⟨hb.size, fun i hi => hb.block i (by omega)⟩
theorem cell_lt' {W : World} {a : Addr} {v : Value} (h : W.cell? a = some v) : a.block < W.heap.size := by
  rcases Nat.lt_or_ge a.block W.heap.size with hlt | hge
  · exact hlt
  · unfold World.cell? at h
    rw [Array.getElem?_eq_none hge] at h
    cases h
theorem wpIn_named {F : Fence} {n : Nat} {P : Program} {c : Code} {Q : Exit → Act → World → Prop} {a : Act} {w : World} (h : ∀ W, W = w → c.wpIn F n P Q a W) : c.wpIn F n P Q a w := h w rfl
/-- The corner of a number (0, 0 where there is none), and the edge from it. -/
def ptAt (xs : List Pt) (k : Nat) : Pt := xs[k]?.getD ⟨0, 0⟩
def edgeV (a b : Pt) : Value := .agg #[.int .i64 a.x, .int .i64 a.y, .int .i64 b.x, .int .i64 b.y]
def edgeAt (xs : List Pt) (k : Nat) : Array Value := #[.int .i64 (k : Int), edgeV (ptAt xs k) (ptAt xs ((k + 1) % xs.length))]
theorem ptAt_lt {xs : List Pt} {k : Nat} (h : k < xs.length) : ptAt xs k = xs[k] := by simp [ptAt, h]
set_option maxRecDepth 100000 in
set_option maxHeartbeats 6400000 in
theorem edges1_in (n : Nat) (hn : 1 ≤ n) (l B Bs cap : Nat) (A : Option Addr) (len : Nat) (xs : List Pt) (hlen : len ≤ 4611686018427387904) (J Jx : List Nat → World → Prop)
    (W : World) (hJ : AbidesFrom W.heap.size J)
    (hY : ∀ x W1, x < len → J (List.range x) W1 → YieldAt Fence.wide (n - 1) Tryz.prog l (edgeAt xs x) W1 fun e W' =>
      (e = .returned (.bool true) ∧ J (List.range x ++ [x]) W' ∧ KeepE B Bs W1 W') ∨ (e = .returned (.bool false) ∧ Jx (List.range x ++ [x]) W'))
    (hBs : W.cell? ⟨Bs, 0, none⟩ = some (.slice A len cap)) (hr : Reads W B 2 A len (ptsV xs)) (hBW : B ≤ W.heap.size) (h0 : J [] W) :
    CallsIn Fence.wide n Tryz.prog 157 #[.func (.yield l) #[] #[], .pointer (some ⟨Bs, 0, none⟩)] W fun e W' => (∃ v, e = .returned v) ∧
      ((∃ ys, ys = List.range len ∧ J ys W') ∨ (∃ pre, (∃ k, k ≤ len ∧ pre = List.range k) ∧ Jx pre W')) := by
  refine callsIn_of_wp Tryz.func157 rfl trivial ?_ rfl
  simp only [Tryz.ntmps157, List.size_toArray, List.length_cons, List.length_nil, Nat.reduceAdd, Nat.reduceSub, Array.replicate_succ, Array.replicate_zero, List.push_toArray, List.append_toArray, List.nil_append, List.cons_append]
  gi_wp2
  gi_loopw [7] (fun i wr => ∃ k : Nat, k ≤ len ∧ i = .int .i64 k ∧ J (List.range k) wr ∧ KeepE B Bs W wr) (fun i _ => len - (intOf i).toNat)
  case atStart => exact ⟨0, Nat.zero_le _, rfl, h0, KeepE.refl _ _ _⟩
  case round =>
    obtain ⟨k, hk, rfl, hJs, hkp⟩ := hrel
    have hsz := hkp.1
    by_cases hlt : k < len
    · have hbs : Bs < W.heap.size := cell_lt' hBs
      obtain ⟨ad, rfl, hbd, hkl, hcx, hcy⟩ := (hkp.reads hr).pt hlt
      have hln : xs.length = len := hr.lenPt
      obtain ⟨m, hm⟩ : ∃ m, m = (k + 1) % len := ⟨_, rfl⟩
      have hml : m < len := by rw [hm]; exact Nat.mod_lt _ (by omega)
      have hmi : ((k : Int) + 1).tmod (len : Int) = (m : Int) := by
        rw [hm, Int.tmod_eq_emod_of_nonneg (by omega), Int.natCast_emod]
        rfl
      obtain ⟨p, hp⟩ : ∃ p, p = ptAt xs k := ⟨_, rfl⟩
      obtain ⟨q, hq⟩ : ∃ q, q = ptAt xs m := ⟨_, rfl⟩
      have hpk : xs[k] = p := by rw [hp, ptAt_lt hkl]
      have hed : edgeAt xs k = #[.int .i64 (k : Int), .agg #[.int .i64 p.x, .int .i64 p.y, .int .i64 q.x, .int .i64 q.y]] := by
        unfold edgeAt edgeV
        rw [hln, ← hm, ← hp, ← hq]
      rw [hpk] at hcx hcy
      have HP := Lib.hid (And.intro hp (And.intro hq (And.intro hpk (And.intro hm hln))))
      have HE := Lib.hid hed
      have HR := Lib.hid hr
      clear hp hq hpk hm hln hed hr
      gi_wp2
      refine wpIn_named fun W2 hW2 => ?_
      have hk2 : KeepE B Bs W W2 := by rw [hW2]; exact hkp.trans (KeepE.alloc (by omega) (by omega) _)
      have hs2 : wr.heap.size < W2.heap.size := by rw [hW2]; simp
      have hJ2 : J (List.range k) W2 := by
        rw [hW2]
        exact hJ _ _ _ none hJs (World.grownBy_alloc wr _ none) (fun r e => by cases e)
      have hJ3 : J (List.range k) W2.drew := hJ _ _ _ none hJ2 (only_drew (World.grownBy.refl W2 none)) (fun r e => by cases e)
      have hpx : W2.cell? ⟨wr.heap.size, 0, none⟩ = some (.int .i64 p.x) := by rw [hW2]; simp
      have hpy : W2.cell? ⟨wr.heap.size, 1, none⟩ = some (.int .i64 p.y) := by rw [hW2]; simp
      have hb2 : W2.cell? ⟨Bs, 0, none⟩ = some (.slice (some ad) len cap) := (hk2.cell (.inr rfl)).trans hBs
      obtain ⟨ad', e', _, hml', hqx, hqy⟩ := (hk2.reads HR.out).pt hml
      obtain rfl : ad = ad' := by simpa using e'
      rw [← ptAt_lt hml', ← HP.out.2.1] at hqx hqy
      have hw1 : IntKind.i64.wrap ((k : Int) + 1) = (k : Int) + 1 := IntWalk.i64_in _ (by omega)
      have hmb : (m : Int) < (len : Int) := by omega
      have hY2 := hY k W2.drew hlt hJ3
      rw [HE.out] at hY2
      obtain ⟨fn, tmps, assign, body, hy, hR⟩ := hY2
      have hR2 : RoundIn Fence.wide (n - 1) Tryz.prog l fn tmps assign body W2.drew (fun e W' => ∃ bb, e = .returned (.bool bb) ∧ Hid ((bb = true ∧ J (List.range k ++ [k]) W' ∧ KeepE B Bs W2.drew W') ∨ (bb = false ∧ Jx (List.range k ++ [k]) W'))) := by
        refine hR.mono ?_
        rintro e W' (⟨h1, h2, h3⟩ | ⟨h1, h2⟩)
        · exact ⟨true, h1, .inl ⟨rfl, h2, h3⟩⟩
        · exact ⟨false, h1, .inr ⟨rfl, h2⟩⟩
      clear hW2 e' hml' hJ2 hJ3 hR hkp hJs hcx hcy
      gi_region_with (refine hR2.mono ?_; rintro e W3 ⟨bb, rfl, hres⟩)
      all_goals
        rcases bb with _ | _
        · gi_wp2
          refine bodyPost_ret (results_none rfl _ _ _) rfl ?_
          rcases hres.out with ⟨h1, _⟩ | ⟨_, h2⟩
          · cases h1
          · exact ⟨⟨_, rfl⟩, .inr ⟨_, ⟨k + 1, by omega, List.range_succ.symm⟩, h2⟩⟩
        · have h3 : J (List.range k ++ [k]) W3 ∧ KeepE B Bs W W3 := by
            rcases hres.out with ⟨_, h1, h2⟩ | ⟨h1, _⟩
            · exact ⟨h1, hk2.trans h2⟩
            · cases h1
          have H3 := Lib.hid h3
          clear h3 hres
          gi_wp2
          go_roundw
          case rel => exact ⟨k + 1, by omega, by simp, by rw [List.range_succ]; exact H3.out.1, H3.out.2⟩
          case measure => simp [intOf]; omega
    · obtain rfl : k = len := by omega
      gi_wp2
      go_end0
      exact ⟨⟨_, rfl⟩, .inl ⟨_, rfl, hJs⟩⟩
end Go.Proofs.YtgkcenhopmjmlaaGreat
namespace Go.Proofs.YtgkcenhopmjmlaaGreat
open Go.RowKit
theorem mod_tmod (k n : Nat) : ((k : Int) + 1).tmod (n : Int) = (((k + 1) % n : Nat) : Int) := by
  rw [Int.tmod_eq_emod_of_nonneg (by omega), Int.natCast_emod]
  rfl
/-- The corner of a number in memory. -/
theorem Reads.ptA {w : World} {B n : Nat} {ad : Addr} {l : List Pt} (h : Reads w B 2 (some ad) n (ptsV l)) {k : Nat} (hk : k < n) :
    ad.block < B ∧ w.cell? (ad.add (k * 2)) = some (.int .i64 (ptAt l k).x) ∧ w.cell? ⟨(ad.add (k * 2)).block, (ad.add (k * 2)).off + 1, none⟩ = some (.int .i64 (ptAt l k).y) := by
  obtain ⟨ad', e, hb, hk', h1, h2⟩ := h.pt hk
  obtain rfl : ad = ad' := by simpa using e
  rw [ptAt_lt hk']
  exact ⟨hb, h1, h2⟩
/-- A block that holds one point. -/
def PtK (W : World) (g : Nat) (p : Pt) : Prop := Blk W g 53 #[.int .i64 p.x, .int .i64 p.y]
theorem PtK.facts {W : World} {g : Nat} {p : Pt} (h : PtK W g p) : W.cell? ⟨g, 0, none⟩ = some (.int .i64 p.x) ∧ W.cell? ⟨g, 1, none⟩ = some (.int .i64 p.y) ∧ W.frozen? ⟨g, 0, none⟩ = false ∧ W.frozen? ⟨g, 1, none⟩ = false ∧ g < W.heap.size :=
  ⟨by rw [Blk.cell h 0]; rfl, by rw [Blk.cell h 1]; rfl, Blk.frozen h 0, Blk.frozen h 1, Blk.lt h⟩
theorem PtK.new (w : World) (p : Pt) : PtK (w.alloc (.cells #[.int .i64 p.x, .int .i64 p.y] 53)) w.heap.size p := Blk.new w _ _
theorem PtK.on {w w' : World} {g : Nat} {p : Pt} (h : PtK w g p) (hb : Below w.heap.size w w') : PtK w' g p := Blk.below h hb (Blk.lt h)
theorem PtK.alloc {w : World} {g : Nat} {p : Pt} (h : PtK w g p) (o : Obj) : PtK (w.alloc o) g p := Blk.alloc h o
theorem PtK.far {w : World} {g : Nat} {p : Pt} (h : PtK w g p) {a : Addr} (hp : g ≠ a.block) (u : Value) : PtK (w.setCell a u) g p := Blk.far h hp u
theorem PtK.put {w : World} {g : Nat} {p : Pt} (h : PtK w g p) (q : Pt) : PtK ((w.setCell ⟨g, 0, none⟩ (.int .i64 q.x)).setCell ⟨g, 1, none⟩ (.int .i64 q.y)) g q := Blk.set_ (Blk.set_ h 0 (.int .i64 q.x)) 1 (.int .i64 q.y)
theorem below_put2 {B : Nat} {w w' : World} (h : Below B w w') {g : Nat} (hg : B ≤ g) (u v : Value) : Below B w ((w'.setCell ⟨g, 0, none⟩ u).setCell ⟨g, 1, none⟩ v) := (h.setCell (p := ⟨g, 0, none⟩) hg u).setCell (p := ⟨g, 1, none⟩) hg v
end Go.Proofs.YtgkcenhopmjmlaaGreat
namespace Go.Proofs.YtgkcenhopmjmlaaGreat
open Go.RowKit Go.Shelf
theorem edges_any (A : Option Addr) (len cap : Nat) (w : World) :
    Calls Tryz.prog 109 #[.slice A len cap] w fun e w' => e = .returned (.func (.func 157) #[] #[.pointer (some ⟨w.heap.size, 0, none⟩)]) ∧ w' = w.alloc (.cells #[.slice A len cap] 23) := by
  go_enter Tryz.func109, Tryz.ntmps109
  go_wp2
  go_ret
  exact ⟨rfl, rfl⟩
theorem edges_stops (n : Nat) (hn : 1 ≤ n) (B Bs cap len : Nat) (A : Option Addr) (xs : List Pt) (hlen : len ≤ 4611686018427387904) (w : World) (hs : Bs < w.heap.size) (hB : B ≤ w.heap.size) (hc : w.cell? ⟨Bs, 0, none⟩ = some (.slice A len cap)) (hr : Reads w B 2 A len (ptsV xs)) :
    SeqStopsK Fence.wide n Tryz.prog 157 #[.pointer (some ⟨Bs, 0, none⟩)] (edgeAt xs) (KeepE B Bs) (fun ys => ys = List.range len) (fun pre => ∃ k, k ≤ len ∧ pre = List.range k) len w := fun l J Jx W hW hJ _ hY h0 =>
  edges1_in n hn l B Bs cap A len xs hlen J Jx W hJ (fun x W1 hx hj => hY _ x W1 hj (by simpa using hx)) ((hW.cell (p := ⟨Bs, 0, none⟩) hs).trans hc) (hr.below (hW.mono hB)) (Nat.le_trans hB hW.size) h0
/-- The same, of a body that is told that the edge is one of the ring's. -/
theorem edges_stopsR (n : Nat) (hn : 1 ≤ n) (B Bs cap len : Nat) (A : Option Addr) (xs : List Pt) (hlen : len ≤ 4611686018427387904) (w : World) (hs : Bs < w.heap.size) (hB : B ≤ w.heap.size) (hc : w.cell? ⟨Bs, 0, none⟩ = some (.slice A len cap)) (hr : Reads w B 2 A len (ptsV xs)) :
    SeqStopsK Fence.wide n Tryz.prog 157 #[.pointer (some ⟨Bs, 0, none⟩)] (fun x : {k : Nat // k < len} => edgeAt xs x.1) (KeepE B Bs) (fun ys => ys.map (·.1) = List.range len) (fun pre => ∃ k, k ≤ len ∧ pre.map (·.1) = List.range k) len w := fun l J Jx W hW hJ hJx hY h0 => by
  refine (edges1_in n hn l B Bs cap A len xs hlen (fun pre W => ∃ ys : List {k : Nat // k < len}, ys.map (·.1) = pre ∧ J ys W) (fun pre W => ∃ ys : List {k : Nat // k < len}, ys.map (·.1) = pre ∧ Jx ys W) W
    (fun s X Y row ⟨ys, e, hj⟩ hg hr => ⟨ys, e, hJ ys X Y row hj hg hr⟩) ?_ ((hW.cell (p := ⟨Bs, 0, none⟩) hs).trans hc) (hr.below (hW.mono hB)) (Nat.le_trans hB hW.size) ⟨[], rfl, h0⟩).mono ?_
  · rintro x W1 hx ⟨ys, e, hj⟩
    have hl : ys.length = x := by have := congrArg List.length e; simpa using this
    obtain ⟨fn, tmps, assign, body, hy, hR⟩ := hY ys ⟨x, hx⟩ W1 hj (by omega)
    refine ⟨fn, tmps, assign, body, hy, hR.mono ?_⟩
    rintro e' W' (⟨h1, h2, h3⟩ | ⟨h1, h2⟩)
    · exact .inl ⟨h1, ⟨_, by rw [List.map_append, e]; rfl, h2⟩, h3⟩
    · exact .inr ⟨h1, ⟨_, by rw [List.map_append, e]; rfl, h2⟩⟩
  · rintro e W' ⟨hv, (⟨ys, rfl, zs, e1, hj⟩ | ⟨pre, ⟨k, hk, rfl⟩, zs, e1, hj⟩)⟩
    · exact ⟨hv, .inl ⟨zs, e1, hj⟩⟩
    · exact ⟨hv, .inr ⟨zs, ⟨k, hk, e1⟩, hj⟩⟩
end Go.Proofs.YtgkcenhopmjmlaaGreat

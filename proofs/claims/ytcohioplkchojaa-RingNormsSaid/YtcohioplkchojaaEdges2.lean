/- A ring's corners in memory, by their numbers. -/
/- ring.Edges: its maker, and its word for whoever ranges over it. -/
import Derived.Test.YtcohioplkchojaaEdges
namespace Go.Proofs.Ytcohioplkchojaa
open Go.RowKit
theorem mod_tmod (k n : Nat) : ((k : Int) + 1).tmod (n : Int) = (((k + 1) % n : Nat) : Int) := by
  rw [Int.tmod_eq_emod_of_nonneg (by omega), Int.natCast_emod]
  rfl
/-- The corner of a number in memory. -/
theorem Reads.ptA {w : World} {B n : Nat} {ad : Addr} {l : List Pt} (h : Reads w B 2 (some ad) n (ptsV l)) {k : Nat} (hk : k < n) :
    ad.block < B ∧ w.cell? (ad.add (k * 2)) = some (.int .i64 (ptAt l k).x) ∧ w.cell? ⟨(ad.add (k * 2)).block, (ad.add (k * 2)).off + 1, none⟩ = some (.int .i64 (ptAt l k).y) := by
  obtain ⟨ad', e, hb, hk', h1, h2⟩ := h.pt hk
  obtain rfl : ad = ad' := by simpa using e
  rw [ptAt_lt hk']
  exact ⟨hb, h1, h2⟩
/-- A block that holds one point. -/
def PtK (W : World) (g : Nat) (p : Pt) : Prop := Blk W g 35 #[.int .i64 p.x, .int .i64 p.y]
theorem PtK.facts {W : World} {g : Nat} {p : Pt} (h : PtK W g p) : W.cell? ⟨g, 0, none⟩ = some (.int .i64 p.x) ∧ W.cell? ⟨g, 1, none⟩ = some (.int .i64 p.y) ∧ W.frozen? ⟨g, 0, none⟩ = false ∧ W.frozen? ⟨g, 1, none⟩ = false ∧ g < W.heap.size :=
  ⟨by rw [Blk.cell h 0]; rfl, by rw [Blk.cell h 1]; rfl, Blk.frozen h 0, Blk.frozen h 1, Blk.lt h⟩
theorem PtK.new (w : World) (p : Pt) : PtK (w.alloc (.cells #[.int .i64 p.x, .int .i64 p.y] 35)) w.heap.size p := Blk.new w _ _
theorem PtK.on {w w' : World} {g : Nat} {p : Pt} (h : PtK w g p) (hb : Below w.heap.size w w') : PtK w' g p := Blk.below h hb (Blk.lt h)
theorem PtK.alloc {w : World} {g : Nat} {p : Pt} (h : PtK w g p) (o : Obj) : PtK (w.alloc o) g p := Blk.alloc h o
theorem PtK.far {w : World} {g : Nat} {p : Pt} (h : PtK w g p) {a : Addr} (hp : g ≠ a.block) (u : Value) : PtK (w.setCell a u) g p := Blk.far h hp u
theorem PtK.put {w : World} {g : Nat} {p : Pt} (h : PtK w g p) (q : Pt) : PtK ((w.setCell ⟨g, 0, none⟩ (.int .i64 q.x)).setCell ⟨g, 1, none⟩ (.int .i64 q.y)) g q := Blk.set_ (Blk.set_ h 0 (.int .i64 q.x)) 1 (.int .i64 q.y)
theorem below_put2 {B : Nat} {w w' : World} (h : Below B w w') {g : Nat} (hg : B ≤ g) (u v : Value) : Below B w ((w'.setCell ⟨g, 0, none⟩ u).setCell ⟨g, 1, none⟩ v) := (h.setCell (p := ⟨g, 0, none⟩) hg u).setCell (p := ⟨g, 1, none⟩) hg v
end Go.Proofs.Ytcohioplkchojaa
namespace Go.Proofs.Ytcohioplkchojaa
open Go.RowKit Go.Shelf
theorem edges_any (A : Option Addr) (len cap : Nat) (w : World) :
    Calls Try.prog 48 #[.slice A len cap] w fun e w' => e = .returned (.func (.func 75) #[] #[.pointer (some ⟨w.heap.size, 0, none⟩)]) ∧ w' = w.alloc (.cells #[.slice A len cap] 23) := by
  go_enter Try.func48, Try.ntmps48
  go_wp2
  go_ret
  exact ⟨rfl, rfl⟩
theorem edges_stops (n : Nat) (hn : 1 ≤ n) (B Bs cap len : Nat) (A : Option Addr) (xs : List Pt) (hlen : len ≤ 4611686018427387904) (w : World) (hs : Bs < w.heap.size) (hB : B ≤ w.heap.size) (hc : w.cell? ⟨Bs, 0, none⟩ = some (.slice A len cap)) (hr : Reads w B 2 A len (ptsV xs)) :
    SeqStopsK Fence.wide n Try.prog 75 #[.pointer (some ⟨Bs, 0, none⟩)] (edgeAt xs) (KeepE B Bs) (fun ys => ys = List.range len) (fun pre => ∃ k, k ≤ len ∧ pre = List.range k) len w := fun l J Jx W hW hJ _ hY h0 =>
  edges1_in n hn l B Bs cap A len xs hlen J Jx W hJ (fun x W1 hx hj => hY _ x W1 hj (by simpa using hx)) ((hW.cell (p := ⟨Bs, 0, none⟩) hs).trans hc) (hr.below (hW.mono hB)) (Nat.le_trans hB hW.size) h0
/-- The same, of a body that is told that the edge is one of the ring's. -/
theorem edges_stopsR (n : Nat) (hn : 1 ≤ n) (B Bs cap len : Nat) (A : Option Addr) (xs : List Pt) (hlen : len ≤ 4611686018427387904) (w : World) (hs : Bs < w.heap.size) (hB : B ≤ w.heap.size) (hc : w.cell? ⟨Bs, 0, none⟩ = some (.slice A len cap)) (hr : Reads w B 2 A len (ptsV xs)) :
    SeqStopsK Fence.wide n Try.prog 75 #[.pointer (some ⟨Bs, 0, none⟩)] (fun x : {k : Nat // k < len} => edgeAt xs x.1) (KeepE B Bs) (fun ys => ys.map (·.1) = List.range len) (fun pre => ∃ k, k ≤ len ∧ pre.map (·.1) = List.range k) len w := fun l J Jx W hW hJ hJx hY h0 => by
  refine (edges1_in n hn l B Bs cap A len xs hlen (fun pre W => ∃ ys : List {k : Nat // k < len}, ys.map (·.1) = pre ∧ J ys W) (fun pre W => ∃ ys : List {k : Nat // k < len}, ys.map (·.1) = pre ∧ Jx ys W) W
    (fun s X Y row ⟨ys, e, hj⟩ hg hr => ⟨ys, e, hJ ys X Y row hj hg hr⟩) ?_ ((hW.cell (p := ⟨Bs, 0, none⟩) hs).trans hc) (hr.below (hW.mono hB)) (Nat.le_trans hB hW.size) ⟨[], rfl, h0⟩).mono ?_
  · rintro x W1 hx ⟨ys, e, hj⟩
    have hl : ys.length = x := by have := congrArg List.length e; simpa using this
    obtain ⟨fn, tmps, assign, body, hy, hR⟩ := hY ys ⟨x, hx⟩ W1 hj (by omega)
    refine ⟨fn, tmps, assign, body, hy, hR.mono ?_⟩
    rintro e' W' (⟨h1, h2, h3⟩ | ⟨h1, h2⟩)
    · exact .inl ⟨h1, ⟨_, by rw [List.map_append, e]; rfl, h2⟩, h3⟩
    · exact .inr ⟨h1, ⟨_, by rw [List.map_append, e]; rfl, h2⟩⟩
  · rintro e W' ⟨hv, (⟨ys, rfl, zs, e1, hj⟩ | ⟨pre, ⟨k, hk, rfl⟩, zs, e1, hj⟩)⟩
    · exact ⟨hv, .inl ⟨zs, e1, hj⟩⟩
    · exact ⟨hv, .inr ⟨zs, ⟨k, hk, e1⟩, hj⟩⟩
end Go.Proofs.Ytcohioplkchojaa

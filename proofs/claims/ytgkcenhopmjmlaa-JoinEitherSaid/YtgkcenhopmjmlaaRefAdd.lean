/- merestoneref01: numbers in five limbs: plus, minus, limbs, whole: the walks. -/
/- merestoneref01: a number of five limbs, with the other sign: the walk. -/
/- merestoneref01.limbs: the walk. -/
/- merestoneref01.whole: the walk. -/
/- merestoneref01: Of, Sign: the walks. -/
/- merestoneref01: Add: the walk. -/
/- merestoneref01: Sub: the walk. -/
/- merestoneref01: Mul: the walk. -/
import Derived.BigRegion
import Derived.Deep.RegionHeld3
import Derived.Laws.BitsAllLaws
import Derived.Test.YtgkcenhopmjmlaaWide
import Derived.Test.YtgkcenhopmjmlaaGeoLaw
namespace Go.Proofs.Ytgkcenhopmjmlaa
open Go.RowKit
/-- What is left of a number when its k lowest limbs are gone, and the limb that then is the lowest. -/
def hI (z : Int) : Nat → Int
  | 0 => z
  | k + 1 => hI z k / 4294967296
def lI (z : Int) (k : Nat) : Int := hI z k % 4294967296
def lmC (z : Int) : Array Value := #[.int .u32 (lI z 0), .int .u32 (lI z 1), .int .u32 (lI z 2), .int .u32 (lI z 3), .int .u32 (lI z 4)]
def lmV (z : Int) : Value := .agg (lmC z)
/-- The carry. -/
def cy (x y : Int) (k : Nat) : Int := hI (x + y) k - hI x k - hI y k
theorem cy_bd (x y : Int) (k : Nat) : 0 ≤ cy x y k ∧ cy x y k ≤ 1 := by
  induction k with
  | zero => unfold cy hI; omega
  | succ k ih =>
    unfold cy at *
    show 0 ≤ hI (x + y) k / 4294967296 - hI x k / 4294967296 - hI y k / 4294967296 ∧ _
    show _ ∧ hI (x + y) k / 4294967296 - hI x k / 4294967296 - hI y k / 4294967296 ≤ 1
    omega
theorem cy_step (x y : Int) (k : Nat) : (lI x k + lI y k + cy x y k) % 4294967296 = lI (x + y) k ∧ (lI x k + lI y k + cy x y k) / 4294967296 = cy x y (k + 1) := by
  unfold lI cy
  show _ ∧ _ = hI (x + y) k / 4294967296 - hI x k / 4294967296 - hI y k / 4294967296
  omega
theorem lI_bd (z : Int) (k : Nat) : 0 ≤ lI z k ∧ lI z k < 4294967296 := by unfold lI; omega
/-- The first k limbs of a number. -/
def outC (z : Int) (k : Nat) : Array Value := #[.int .u32 (if 0 < k then lI z 0 else 0), .int .u32 (if 1 < k then lI z 1 else 0), .int .u32 (if 2 < k then lI z 2 else 0), .int .u32 (if 3 < k then lI z 3 else 0), .int .u32 (if 4 < k then lI z 4 else 0)]
theorem blk5 {w : World} {g : Nat} {t : TypeId} {a b c d e : Value} (h : Blk w g t #[a, b, c, d, e]) : w.cell? ⟨g, 0, none⟩ = some a ∧ w.cell? ⟨g, 1, none⟩ = some b ∧ w.cell? ⟨g, 2, none⟩ = some c ∧ w.cell? ⟨g, 3, none⟩ = some d ∧ w.cell? ⟨g, 4, none⟩ = some e :=
  ⟨by rw [h.cell 0]; rfl, by rw [h.cell 1]; rfl, by rw [h.cell 2]; rfl, by rw [h.cell 3]; rfl, by rw [h.cell 4]; rfl⟩
theorem blk_put5 {w : World} {g : Nat} {t : TypeId} {a b c d e : Value} (h : Blk w g t #[a, b, c, d, e]) (a' b' c' d' e' : Value) :
    Blk (((((w.setCell ⟨g, 0, none⟩ a').setCell ⟨g, 1, none⟩ b').setCell ⟨g, 2, none⟩ c').setCell ⟨g, 3, none⟩ d').setCell ⟨g, 4, none⟩ e') g t #[a', b', c', d', e'] :=
  Blk.set_ (Blk.set_ (Blk.set_ (Blk.set_ (Blk.set_ h 0 a') 1 b') 2 c') 3 d') 4 e'
theorem below_put5 {B : Nat} {w w' : World} (h : Below B w w') {k : Nat} (hk : B ≤ k) (a b c d e : Value) : Below B w (((((w'.setCell ⟨k, 0, none⟩ a).setCell ⟨k, 1, none⟩ b).setCell ⟨k, 2, none⟩ c).setCell ⟨k, 3, none⟩ d).setCell ⟨k, 4, none⟩ e) :=
  ((((h.setCell (p := ⟨k, 0, none⟩) hk a).setCell (p := ⟨k, 1, none⟩) hk b).setCell (p := ⟨k, 2, none⟩) hk c).setCell (p := ⟨k, 3, none⟩) hk d).setCell (p := ⟨k, 4, none⟩) hk e
end Go.Proofs.Ytgkcenhopmjmlaa
namespace Go.Proofs.Ytgkcenhopmjmlaa
open Go.RowKit
theorem hI_neg (z : Int) (k : Nat) : hI (-1 - z) k = -1 - hI z k := by
  induction k with
  | zero => rfl
  | succ k ih =>
    show hI (-1 - z) k / 4294967296 = -1 - hI z k / 4294967296
    rw [ih]
    omega
theorem lI_neg (z : Int) (k : Nat) : lI (-1 - z) k = 4294967295 - lI z k := by
  unfold lI
  rw [hI_neg]
  omega
theorem u32_not_nat (a : Nat) (ha : a < 4294967296) : 4294967295 ^^^ a = 4294967295 - a := by
  have h := BitVec.toNat_not (x := BitVec.ofNat 32 a)
  rw [← BitVec.xor_allOnes, BitVec.toNat_xor, BitVec.toNat_allOnes, BitVec.toNat_ofNat] at h
  have e : a % 2 ^ 32 = a := Nat.mod_eq_of_lt (by simpa using ha)
  rw [e, Nat.xor_comm] at h
  exact h
theorem u32_not (z : Int) (h1 : 0 ≤ z) (h2 : z < 4294967296) : bits BinOp.xor IntKind.u32 (if IntKind.u32.signed = true then -1 else IntKind.u32.max) z = 4294967295 - z := by
  have h := u32_xor_nat 4294967295 z.toNat (by decide) (by omega)
  rw [u32_not_nat _ (by omega), Int.toNat_of_nonneg h1] at h
  have hm : (if IntKind.u32.signed = true then -1 else IntKind.u32.max) = ((4294967295 : Nat) : Int) := by decide
  rw [hm, h]
  omega
theorem lI_one : lI 1 0 = 1 ∧ lI 1 1 = 0 ∧ lI 1 2 = 0 ∧ lI 1 3 = 0 ∧ lI 1 4 = 0 := by decide
/-- The first k limbs turned. -/
def negC (z : Int) (k : Nat) : Array Value := #[.int .u32 (if 0 < k then lI (-1 - z) 0 else lI z 0), .int .u32 (if 1 < k then lI (-1 - z) 1 else lI z 1), .int .u32 (if 2 < k then lI (-1 - z) 2 else lI z 2), .int .u32 (if 3 < k then lI (-1 - z) 3 else lI z 3), .int .u32 (if 4 < k then lI (-1 - z) 4 else lI z 4)]
end Go.Proofs.Ytgkcenhopmjmlaa
namespace Go.Proofs.Ytgkcenhopmjmlaa
open Go.RowKit
theorem limb_parts (z : Int) (h : small z) :
    z % 18446744073709551616 % 4294967296 = lI z 0 ∧ z % 18446744073709551616 / 4294967296 % 4294967296 = lI z 1 ∧
    z / 18446744073709551616 % 18446744073709551616 % 4294967296 = lI z 2 ∧ z / 18446744073709551616 % 18446744073709551616 / 4294967296 % 4294967296 = lI z 3 ∧
    lI z 4 = if z / 18446744073709551616 < 0 then 4294967295 else 0 := by
  unfold small at h
  unfold lI hI hI hI hI hI
  refine ⟨by omega, by omega, by omega, by omega, ?_⟩
  split <;> omega
end Go.Proofs.Ytgkcenhopmjmlaa
namespace Go.Proofs.Ytgkcenhopmjmlaa
open Go.RowKit
theorem u64_or_add (a b : Int) (ha : 0 ≤ a) (ha2 : a < 4294967296) (hb : 0 ≤ b) (hb2 : b < 4294967296) : bits BinOp.or IntKind.u64 (a * 4294967296) b = a * 4294967296 + b := by
  obtain ⟨x, rfl⟩ := Int.eq_ofNat_of_zero_le ha
  obtain ⟨y, rfl⟩ := Int.eq_ofNat_of_zero_le hb
  have h := u64_or_nat (x * 4294967296) y (by omega) (by omega)
  have e : x * 4294967296 ||| y = x * 4294967296 + y := by
    have := Nat.shiftLeft_add_eq_or_of_lt (i := 32) (b := y) (by omega) x
    rw [Nat.shiftLeft_eq] at this
    exact this.symm
  rw [e] at h
  rw [Int.natCast_add, Int.natCast_mul] at h
  exact h
end Go.Proofs.Ytgkcenhopmjmlaa
namespace Go.Proofs.Ytgkcenhopmjmlaa
open Go.RowKit
end Go.Proofs.Ytgkcenhopmjmlaa
namespace Go.Proofs.Ytgkcenhopmjmlaa
open Go.RowKit
theorem blk_two {W : World} {g : Nat} {t : TypeId} {a b : Value} (h : Blk W g t #[a, b]) : W.cell? ⟨g, 0, none⟩ = some a ∧ W.cell? ⟨g, 1, none⟩ = some b ∧ W.frozen? ⟨g, 0, none⟩ = false ∧ W.frozen? ⟨g, 1, none⟩ = false :=
  ⟨Blk.cell h 0, Blk.cell h 1, Blk.frozen h 0, Blk.frozen h 1⟩
theorem put_two {W : World} {g : Nat} {t : TypeId} {a b : Value} (h : Blk W g t #[a, b]) (u v : Value) : ((W.setCell ⟨g, 0, none⟩ u).setCell ⟨g, 1, none⟩ v).cell? ⟨g, 0, none⟩ = some u ∧ ((W.setCell ⟨g, 0, none⟩ u).setCell ⟨g, 1, none⟩ v).cell? ⟨g, 1, none⟩ = some v ∧ ((W.setCell ⟨g, 0, none⟩ u).setCell ⟨g, 1, none⟩ v).frozen? ⟨g, 0, none⟩ = false ∧ ((W.setCell ⟨g, 0, none⟩ u).setCell ⟨g, 1, none⟩ v).frozen? ⟨g, 1, none⟩ = false :=
  blk_two ((h.set_ 0 u).set_ 1 v)
/-- What the region reads. -/
abbrev HoldA (w V : World) (xh xl yh yl : Int) : Prop := V.cell? ⟨w.heap.size, 0, none⟩ = some (.int .i64 xh) ∧ V.cell? ⟨w.heap.size, 1, none⟩ = some (.int .u64 xl) ∧ V.cell? ⟨w.heap.size + 1, 0, none⟩ = some (.int .i64 yh) ∧ V.cell? ⟨w.heap.size + 1, 1, none⟩ = some (.int .u64 yl) ∧ Blk V (w.heap.size + 1 + 1) 76 #[.int .i64 0, .int .u64 0] ∧ Below w.heap.size w V
theorem heldA {w V V' : World} {xh xl yh yl : Int} (h : HoldA w V xh xl yh yl) (hb : Below V.heap.size V V') : HoldA w V' xh xl yh yl := by
  obtain ⟨h1, h2, h3, h4, h5, h6⟩ := h
  have hl := Blk.lt h5
  exact ⟨(hb.cell (p := ⟨_, 0, none⟩) (by simp only; omega)).trans h1, (hb.cell (p := ⟨_, 1, none⟩) (by simp only; omega)).trans h2, (hb.cell (p := ⟨_, 0, none⟩) (by simp only; omega)).trans h3, (hb.cell (p := ⟨_, 1, none⟩) (by simp only; omega)).trans h4, h5.below hb hl, h6.trans (hb.mono h6.size)⟩
theorem freshA {w V V' : World} {t : TypeId} {cs : Array Value} (h : w.heap.size + 1 + 1 + 1 ≤ V.heap.size) (hb : Below (V.alloc (.cells cs t)).heap.size (V.alloc (.cells cs t)) V') : Blk V' V.heap.size t cs ∧ w.heap.size + 1 + 1 + 1 ≤ V.heap.size := ⟨(Blk.new V t cs).below hb (by simp), h⟩
theorem freshD {w V V' : World} {t : TypeId} {cs : Array Value} (h : w.heap.size + 1 + 1 + 1 ≤ V.heap.size) (hb : Below (V.alloc (.cells cs t)).drew.heap.size (V.alloc (.cells cs t)).drew V') : Blk V' V.heap.size t cs ∧ w.heap.size + 1 + 1 + 1 ≤ V.heap.size :=
  ⟨(Blk.new V t cs).drew.below hb (by rw [World.size_drew, World.size_alloc]; omega), h⟩
theorem freshB {w V V' : World} {t : TypeId} {cs : Array Value} {a : Nat} (h : Blk V a t cs ∧ w.heap.size + 1 + 1 + 1 ≤ a) (hb : Below V.heap.size V V') : Blk V' a t cs ∧ w.heap.size + 1 + 1 + 1 ≤ a := ⟨h.1.below hb h.1.lt, h.2⟩
theorem set2_other (V : World) (a k i : Nat) (u v : Value) (hk : k ≠ a) : ((V.setCell ⟨a, 0, none⟩ u).setCell ⟨a, 1, none⟩ v).cell? ⟨k, i, none⟩ = V.cell? ⟨k, i, none⟩ := by
  rw [World.cell?_setCell_other _ _ _ _ (fun e => hk (by cases e; rfl)), World.cell?_setCell_other _ _ _ _ (fun e => hk (by cases e; rfl))]
theorem heldS {w V : World} {xh xl yh yl : Int} {t : TypeId} {cs : Array Value} {a : Nat} (h : HoldA w V xh xl yh yl) (hf : Blk V a t cs ∧ w.heap.size + 1 + 1 + 1 ≤ a) (u v : Value) : HoldA w ((V.setCell ⟨a, 0, none⟩ u).setCell ⟨a, 1, none⟩ v) xh xl yh yl := by
  obtain ⟨h1, h2, h3, h4, h5, h6⟩ := h
  have hg := hf.2
  exact ⟨(set2_other V a _ _ u v (by omega)).trans h1, (set2_other V a _ _ u v (by omega)).trans h2, (set2_other V a _ _ u v (by omega)).trans h3, (set2_other V a _ _ u v (by omega)).trans h4, (h5.far (p := ⟨a, 0, none⟩) (by simp only; omega) u).far (p := ⟨a, 1, none⟩) (by simp only; omega) v, (h6.setCell (p := ⟨a, 0, none⟩) (by simp only; omega) u).setCell (p := ⟨a, 1, none⟩) (by simp only; omega) v⟩
theorem heldT {w V : World} {xh xl yh yl : Int} {o o' : Obj} (hg : w.heap.size + 1 + 1 + 1 ≤ V.heap.size) (h : HoldA w (V.alloc o) xh xl yh yl) : HoldA w (V.alloc o') xh xl yh yl := by
  obtain ⟨h1, h2, h3, h4, h5, h6⟩ := h
  have hn : ∀ (k i : Nat), k < V.heap.size → (V.alloc o').cell? ⟨k, i, none⟩ = (V.alloc o).cell? ⟨k, i, none⟩ := fun k i hk => by
    rw [World.cell?_alloc_lt V o' ⟨k, i, none⟩ hk, World.cell?_alloc_lt V o ⟨k, i, none⟩ hk]
  refine ⟨(hn _ _ (by omega)).trans h1, (hn _ _ (by omega)).trans h2, (hn _ _ (by omega)).trans h3, (hn _ _ (by omega)).trans h4, (Below.heap_alloc V o' _ (by omega)).trans ((Below.heap_alloc V o _ (by omega)).symm.trans h5), ?_⟩
  exact ⟨h6.os, h6.tape, h6.output, by rw [World.size_alloc]; omega, fun k hk => (Below.heap_alloc V o' k (by omega)).trans ((Below.heap_alloc V o k (by omega)).symm.trans (h6.block k hk))⟩
end Go.Proofs.Ytgkcenhopmjmlaa
namespace Go.Proofs.Ytgkcenhopmjmlaa
open Go.RowKit
end Go.Proofs.Ytgkcenhopmjmlaa
namespace Go.Proofs.Ytgkcenhopmjmlaa
open Go.RowKit
theorem mul_step (a : Int) (m k : Nat) : (m / 2 ^ k % 2 = 1 → a * ((m % 2 ^ k : Nat) : Int) + a * ((2 ^ k : Nat) : Int) = a * ((m % 2 ^ (k + 1) : Nat) : Int)) ∧ (m / 2 ^ k % 2 = 0 → a * ((m % 2 ^ k : Nat) : Int) = a * ((m % 2 ^ (k + 1) : Nat) : Int)) ∧ a * ((2 ^ k : Nat) : Int) + a * ((2 ^ k : Nat) : Int) = a * ((2 ^ (k + 1) : Nat) : Int) := by
  have h : m % 2 ^ (k + 1) = m % 2 ^ k + 2 ^ k * (m / 2 ^ k % 2) := by
    rw [Nat.pow_succ]; exact Nat.mod_mul
  refine ⟨fun e => ?_, fun e => ?_, ?_⟩
  · rw [h, e, Nat.mul_one, Int.natCast_add, Int.mul_add]
  · rw [h, e, Nat.mul_zero, Nat.add_zero]
  · rw [← Int.mul_add, ← Int.natCast_add]
    congr 2
    omega
theorem u64_neg (b : Int) (h : b < 0) (h2 : -2147483648 ≤ b) : IntKind.u64.wrap (-(b % 18446744073709551616)) = -b ∧ (-(b % 18446744073709551616)) % 18446744073709551616 = -b := by
  rw [u64_wrap]
  omega
theorem far5 {w : World} {g k : Nat} {t : TypeId} {cs : Array Value} (h : Blk w g t cs) (hk : g ≠ k) (a b c d e : Value) : Blk (((((w.setCell ⟨k, 0, none⟩ a).setCell ⟨k, 1, none⟩ b).setCell ⟨k, 2, none⟩ c).setCell ⟨k, 3, none⟩ d).setCell ⟨k, 4, none⟩ e) g t cs :=
  Blk.far (Blk.far (Blk.far (Blk.far (Blk.far h (p := ⟨k, 0, none⟩) hk a) (p := ⟨k, 1, none⟩) hk b) (p := ⟨k, 2, none⟩) hk c) (p := ⟨k, 3, none⟩) hk d) (p := ⟨k, 4, none⟩) hk e
theorem lI_zero : lI 0 0 = 0 ∧ lI 0 1 = 0 ∧ lI 0 2 = 0 ∧ lI 0 3 = 0 ∧ lI 0 4 = 0 := by decide
end Go.Proofs.Ytgkcenhopmjmlaa

/- merestoneref01: numbers in five limbs: plus, minus, limbs, whole: the walks. -/
/- merestoneref01: a number of five limbs, with the other sign: the walk. -/
/- merestoneref01.limbs: the walk. -/
/- merestoneref01.whole: the walk. -/
import Derived.Test.YtcohioplkchojaaWide
import Derived.Laws.BitsAllLaws
import Derived.BigRegion
namespace Go.Proofs.Ytcohioplkchojaa
open Go.RowKit
/-- What is left of a number when its k lowest limbs are gone, and the limb that then is the lowest. -/
def hI (z : Int) : Nat → Int
  | 0 => z
  | k + 1 => hI z k / 4294967296
def lI (z : Int) (k : Nat) : Int := hI z k % 4294967296
def lmC (z : Int) : Array Value := #[.int .u32 (lI z 0), .int .u32 (lI z 1), .int .u32 (lI z 2), .int .u32 (lI z 3), .int .u32 (lI z 4)]
def lmV (z : Int) : Value := .agg (lmC z)
/-- The carry. -/
def cy (x y : Int) (k : Nat) : Int := hI (x + y) k - hI x k - hI y k
theorem cy_bd (x y : Int) (k : Nat) : 0 ≤ cy x y k ∧ cy x y k ≤ 1 := by
  induction k with
  | zero => unfold cy hI; omega
  | succ k ih =>
    unfold cy at *
    show 0 ≤ hI (x + y) k / 4294967296 - hI x k / 4294967296 - hI y k / 4294967296 ∧ _
    show _ ∧ hI (x + y) k / 4294967296 - hI x k / 4294967296 - hI y k / 4294967296 ≤ 1
    omega
theorem cy_step (x y : Int) (k : Nat) : (lI x k + lI y k + cy x y k) % 4294967296 = lI (x + y) k ∧ (lI x k + lI y k + cy x y k) / 4294967296 = cy x y (k + 1) := by
  unfold lI cy
  show _ ∧ _ = hI (x + y) k / 4294967296 - hI x k / 4294967296 - hI y k / 4294967296
  omega
theorem lI_bd (z : Int) (k : Nat) : 0 ≤ lI z k ∧ lI z k < 4294967296 := by unfold lI; omega
/-- The first k limbs of a number. -/
def outC (z : Int) (k : Nat) : Array Value := #[.int .u32 (if 0 < k then lI z 0 else 0), .int .u32 (if 1 < k then lI z 1 else 0), .int .u32 (if 2 < k then lI z 2 else 0), .int .u32 (if 3 < k then lI z 3 else 0), .int .u32 (if 4 < k then lI z 4 else 0)]
theorem blk5 {w : World} {g : Nat} {t : TypeId} {a b c d e : Value} (h : Blk w g t #[a, b, c, d, e]) : w.cell? ⟨g, 0, none⟩ = some a ∧ w.cell? ⟨g, 1, none⟩ = some b ∧ w.cell? ⟨g, 2, none⟩ = some c ∧ w.cell? ⟨g, 3, none⟩ = some d ∧ w.cell? ⟨g, 4, none⟩ = some e :=
  ⟨by rw [h.cell 0]; rfl, by rw [h.cell 1]; rfl, by rw [h.cell 2]; rfl, by rw [h.cell 3]; rfl, by rw [h.cell 4]; rfl⟩
theorem blk_put5 {w : World} {g : Nat} {t : TypeId} {a b c d e : Value} (h : Blk w g t #[a, b, c, d, e]) (a' b' c' d' e' : Value) :
    Blk (((((w.setCell ⟨g, 0, none⟩ a').setCell ⟨g, 1, none⟩ b').setCell ⟨g, 2, none⟩ c').setCell ⟨g, 3, none⟩ d').setCell ⟨g, 4, none⟩ e') g t #[a', b', c', d', e'] :=
  Blk.set_ (Blk.set_ (Blk.set_ (Blk.set_ (Blk.set_ h 0 a') 1 b') 2 c') 3 d') 4 e'
theorem below_put5 {B : Nat} {w w' : World} (h : Below B w w') {k : Nat} (hk : B ≤ k) (a b c d e : Value) : Below B w (((((w'.setCell ⟨k, 0, none⟩ a).setCell ⟨k, 1, none⟩ b).setCell ⟨k, 2, none⟩ c).setCell ⟨k, 3, none⟩ d).setCell ⟨k, 4, none⟩ e) :=
  ((((h.setCell (p := ⟨k, 0, none⟩) hk a).setCell (p := ⟨k, 1, none⟩) hk b).setCell (p := ⟨k, 2, none⟩) hk c).setCell (p := ⟨k, 3, none⟩) hk d).setCell (p := ⟨k, 4, none⟩) hk e
set_option maxRecDepth 100000 in
set_option maxHeartbeats 3200000 in
theorem plus_any (x y : Int) (w : World) :
    Calls Try.prog 79 #[lmV x, lmV y] w fun e w' => e = .returned (lmV (x + y)) ∧ Below w.heap.size w w' := by
  have hA := ((Blk.new w 104 (lmC x)).alloc (.cells (lmC y) 104))
  have hC := Blk.new (w.alloc (.cells (lmC x) 104)) 104 (lmC y)
  rw [World.size_alloc] at hC
  have hB : Below w.heap.size w ((w.alloc (.cells (lmC x) 104)).alloc (.cells (lmC y) 104)) := ((Below.refl _ _).alloc (Nat.le_refl _) _).alloc (by simp) _
  have HN := Lib.hid (And.intro hA (And.intro hC hB))
  clear hA hC hB
  unfold lmV lmC
  go_enter Try.func79, Try.ntmps79
  go_wp2_with fail
  obtain ⟨hA, hC, hB⟩ := HN.out
  clear HN
  have hz : ((w.alloc (.cells (lmC x) 104)).alloc (.cells (lmC y) 104)).heap.size = w.heap.size + 1 + 1 := by simp
  unfold lmC at hA hC hB hz
  generalize (w.alloc (.cells #[.int .u32 (lI x 0), .int .u32 (lI x 1), .int .u32 (lI x 2), .int .u32 (lI x 3), .int .u32 (lI x 4)] 104)).alloc (.cells #[.int .u32 (lI y 0), .int .u32 (lI y 1), .int .u32 (lI y 2), .int .u32 (lI y 3), .int .u32 (lI y 4)] 104) = w0 at *
  have hR0 := (Blk.new w0 104 #[.int .u32 0, .int .u32 0, .int .u32 0, .int .u32 0, .int .u32 0]).alloc (.cells #[.int .u32 0, .int .u32 0, .int .u32 0, .int .u32 0, .int .u32 0] 104)
  have hO0 := Blk.new (w0.alloc (.cells #[.int .u32 0, .int .u32 0, .int .u32 0, .int .u32 0, .int .u32 0] 104)) 104 #[.int .u32 0, .int .u32 0, .int .u32 0, .int .u32 0, .int .u32 0]
  rw [World.size_alloc] at hO0
  rw [hz] at hR0 hO0
  have hA0 := (hA.alloc (.cells #[.int .u32 0, .int .u32 0, .int .u32 0, .int .u32 0, .int .u32 0] 104)).alloc (.cells #[.int .u32 0, .int .u32 0, .int .u32 0, .int .u32 0, .int .u32 0] 104)
  have hC0 := (hC.alloc (.cells #[.int .u32 0, .int .u32 0, .int .u32 0, .int .u32 0, .int .u32 0] 104)).alloc (.cells #[.int .u32 0, .int .u32 0, .int .u32 0, .int .u32 0, .int .u32 0] 104)
  have hB0 := (hB.alloc hB.size (.cells #[.int .u32 0, .int .u32 0, .int .u32 0, .int .u32 0, .int .u32 0] 104)).alloc (by have := hB.size; simp; omega) (.cells #[.int .u32 0, .int .u32 0, .int .u32 0, .int .u32 0, .int .u32 0] 104)
  clear hA hC hB
  generalize (w0.alloc (.cells #[.int .u32 0, .int .u32 0, .int .u32 0, .int .u32 0, .int .u32 0] 104)).alloc (.cells #[.int .u32 0, .int .u32 0, .int .u32 0, .int .u32 0, .int .u32 0] 104) = w1 at *
  go_loopw [6, 7] (fun c i wr => ∃ k : Nat, k ≤ 5 ∧ i = .int .i64 (k : Int) ∧ c = .int .u64 (cy x y k) ∧ Blk wr w.heap.size 104 #[.int .u32 (lI x 0), .int .u32 (lI x 1), .int .u32 (lI x 2), .int .u32 (lI x 3), .int .u32 (lI x 4)] ∧ Blk wr (w.heap.size + 1) 104 #[.int .u32 (lI y 0), .int .u32 (lI y 1), .int .u32 (lI y 2), .int .u32 (lI y 3), .int .u32 (lI y 4)] ∧ Blk wr (w.heap.size + 1 + 1 + 1) 104 (outC (x + y) k) ∧ Blk wr (w.heap.size + 1 + 1) 104 #[.int .u32 0, .int .u32 0, .int .u32 0, .int .u32 0, .int .u32 0] ∧ Below w.heap.size w wr) (fun _ i _ => 5 - (intOf i).toNat)
  case atStart => exact ⟨0, by omega, rfl, by unfold cy hI; congr 1; omega, hA0, hC0, hO0, hR0, hB0⟩
  case round =>
    clear hA0 hC0 hO0 hR0 hB0
    obtain ⟨k, hk, rfl, rfl, hX, hY, hO, hR, hbel⟩ := hrel
    by_cases hlt : k < 5
    · obtain ⟨a0, a1, a2, a3, a4⟩ := blk5 hX
      obtain ⟨b0, b1, b2, b3, b4⟩ := blk5 hY
      obtain ⟨t1, t2⟩ := cy_step x y k
      have l1 := lI_bd x k
      have l2 := lI_bd y k
      have l3 := cy_bd x y k
      obtain ⟨c, hc⟩ : ∃ c, c = cy x y k := ⟨_, rfl⟩
      obtain ⟨nn, hnn⟩ : ∃ z, z = lI x k + lI y k + cy x y k := ⟨_, rfl⟩
      obtain ⟨s, hs⟩ : ∃ s, s = lI (x + y) k := ⟨_, rfl⟩
      rw [← hnn] at t1 t2
      rw [← hs] at t1
      rw [← hc] at l3 ⊢
      have hw1 : IntKind.u64.wrap (lI x k + lI y k) = lI x k + lI y k := by rw [u64_wrap]; omega
      have hw2 : IntKind.u64.wrap (lI x k + lI y k + c) = nn := by rw [u64_wrap, hnn, hc]; omega
      have hw3 : nn % 4294967296 = s := t1
      have hw4 : IntKind.u64.wrap (lI x k) = lI x k := by rw [u64_wrap]; omega
      have hw5 : IntKind.u64.wrap (lI y k) = lI y k := by rw [u64_wrap]; omega
      have HC : Hid (cy x y (k + 1) = nn / 4294967296) := t2.symm
      have hs2 : s = lI (x + y) k := hs
      have HS := Lib.hid hs
      clear t1 t2 l1 l2 l3 hc hnn hs
      have h5 : k = 0 ∨ k = 1 ∨ k = 2 ∨ k = 3 ∨ k = 4 := by omega
      rcases h5 with rfl | rfl | rfl | rfl | rfl
      · have hout : ∀ m, Blk ((wr.drewN m).setCell ⟨w.heap.size + 1 + 1 + 1, 0, none⟩ (.int .u32 s)) (w.heap.size + 1 + 1 + 1) 104 (outC (x + y) 1) := by
          intro m
          have := Blk.set_ (hO.drewN m) 0 (.int .u32 s)
          rw [hs2] at this ⊢
          exact this
        have HO2 := Lib.hid hout
        obtain ⟨c0, c1, c2, c3, c4⟩ := blk5 hO
        have f0 := hO.frozen 0
        clear hout hs2 HS
        go_wp2
        go_quiet (fail)
        go_wp2
        go_roundw
        case rel => exact ⟨1, by omega, rfl, by rw [HC.out], Blk.far (p := ⟨w.heap.size + 1 + 1 + 1, 0, none⟩) (hX.drewN _) (by simp only; omega) _, Blk.far (p := ⟨w.heap.size + 1 + 1 + 1, 0, none⟩) (hY.drewN _) (by simp only; omega) _, HO2.out _, Blk.far (p := ⟨w.heap.size + 1 + 1 + 1, 0, none⟩) (hR.drewN _) (by simp only; omega) _, (below_drewN hbel _).setCell (p := ⟨w.heap.size + 1 + 1 + 1, 0, none⟩) (by simp; omega) _⟩
        case measure => simp [intOf]
      · have hout : ∀ m, Blk ((wr.drewN m).setCell ⟨w.heap.size + 1 + 1 + 1, 1, none⟩ (.int .u32 s)) (w.heap.size + 1 + 1 + 1) 104 (outC (x + y) 2) := by
          intro m
          have := Blk.set_ (hO.drewN m) 1 (.int .u32 s)
          rw [hs2] at this ⊢
          exact this
        have HO2 := Lib.hid hout
        obtain ⟨c0, c1, c2, c3, c4⟩ := blk5 hO
        have f0 := hO.frozen 1
        clear hout hs2 HS
        go_wp2
        go_quiet (fail)
        go_wp2
        go_roundw
        case rel => exact ⟨2, by omega, rfl, by rw [HC.out], Blk.far (p := ⟨w.heap.size + 1 + 1 + 1, 1, none⟩) (hX.drewN _) (by simp only; omega) _, Blk.far (p := ⟨w.heap.size + 1 + 1 + 1, 1, none⟩) (hY.drewN _) (by simp only; omega) _, HO2.out _, Blk.far (p := ⟨w.heap.size + 1 + 1 + 1, 1, none⟩) (hR.drewN _) (by simp only; omega) _, (below_drewN hbel _).setCell (p := ⟨w.heap.size + 1 + 1 + 1, 1, none⟩) (by simp; omega) _⟩
        case measure => simp [intOf]
      · have hout : ∀ m, Blk ((wr.drewN m).setCell ⟨w.heap.size + 1 + 1 + 1, 2, none⟩ (.int .u32 s)) (w.heap.size + 1 + 1 + 1) 104 (outC (x + y) 3) := by
          intro m
          have := Blk.set_ (hO.drewN m) 2 (.int .u32 s)
          rw [hs2] at this ⊢
          exact this
        have HO2 := Lib.hid hout
        obtain ⟨c0, c1, c2, c3, c4⟩ := blk5 hO
        have f0 := hO.frozen 2
        clear hout hs2 HS
        go_wp2
        go_quiet (fail)
        go_wp2
        go_roundw
        case rel => exact ⟨3, by omega, rfl, by rw [HC.out], Blk.far (p := ⟨w.heap.size + 1 + 1 + 1, 2, none⟩) (hX.drewN _) (by simp only; omega) _, Blk.far (p := ⟨w.heap.size + 1 + 1 + 1, 2, none⟩) (hY.drewN _) (by simp only; omega) _, HO2.out _, Blk.far (p := ⟨w.heap.size + 1 + 1 + 1, 2, none⟩) (hR.drewN _) (by simp only; omega) _, (below_drewN hbel _).setCell (p := ⟨w.heap.size + 1 + 1 + 1, 2, none⟩) (by simp; omega) _⟩
        case measure => simp [intOf]
      · have hout : ∀ m, Blk ((wr.drewN m).setCell ⟨w.heap.size + 1 + 1 + 1, 3, none⟩ (.int .u32 s)) (w.heap.size + 1 + 1 + 1) 104 (outC (x + y) 4) := by
          intro m
          have := Blk.set_ (hO.drewN m) 3 (.int .u32 s)
          rw [hs2] at this ⊢
          exact this
        have HO2 := Lib.hid hout
        obtain ⟨c0, c1, c2, c3, c4⟩ := blk5 hO
        have f0 := hO.frozen 3
        clear hout hs2 HS
        go_wp2
        go_quiet (fail)
        go_wp2
        go_roundw
        case rel => exact ⟨4, by omega, rfl, by rw [HC.out], Blk.far (p := ⟨w.heap.size + 1 + 1 + 1, 3, none⟩) (hX.drewN _) (by simp only; omega) _, Blk.far (p := ⟨w.heap.size + 1 + 1 + 1, 3, none⟩) (hY.drewN _) (by simp only; omega) _, HO2.out _, Blk.far (p := ⟨w.heap.size + 1 + 1 + 1, 3, none⟩) (hR.drewN _) (by simp only; omega) _, (below_drewN hbel _).setCell (p := ⟨w.heap.size + 1 + 1 + 1, 3, none⟩) (by simp; omega) _⟩
        case measure => simp [intOf]
      · have hout : ∀ m, Blk ((wr.drewN m).setCell ⟨w.heap.size + 1 + 1 + 1, 4, none⟩ (.int .u32 s)) (w.heap.size + 1 + 1 + 1) 104 (outC (x + y) 5) := by
          intro m
          have := Blk.set_ (hO.drewN m) 4 (.int .u32 s)
          rw [hs2] at this ⊢
          exact this
        have HO2 := Lib.hid hout
        obtain ⟨c0, c1, c2, c3, c4⟩ := blk5 hO
        have f0 := hO.frozen 4
        clear hout hs2 HS
        go_wp2
        go_quiet (fail)
        go_wp2
        go_roundw
        case rel => exact ⟨5, by omega, rfl, by rw [HC.out], Blk.far (p := ⟨w.heap.size + 1 + 1 + 1, 4, none⟩) (hX.drewN _) (by simp only; omega) _, Blk.far (p := ⟨w.heap.size + 1 + 1 + 1, 4, none⟩) (hY.drewN _) (by simp only; omega) _, HO2.out _, Blk.far (p := ⟨w.heap.size + 1 + 1 + 1, 4, none⟩) (hR.drewN _) (by simp only; omega) _, (below_drewN hbel _).setCell (p := ⟨w.heap.size + 1 + 1 + 1, 4, none⟩) (by simp; omega) _⟩
        case measure => simp [intOf]
    · have hk5 : k = 5 := by omega
      subst hk5
      have hO2 : Blk wr (w.heap.size + 1 + 1 + 1) 104 #[.int .u32 (lI (x + y) 0), .int .u32 (lI (x + y) 1), .int .u32 (lI (x + y) 2), .int .u32 (lI (x + y) 3), .int .u32 (lI (x + y) 4)] := hO
      clear hO
      obtain ⟨c0, c1, c2, c3, c4⟩ := blk5 hO2
      obtain ⟨r0, r1, r2, r3, r4⟩ := blk5 hR
      have f0 := hR.frozen 0
      have f1 := hR.frozen 1
      have f2 := hR.frozen 2
      have f3 := hR.frozen 3
      have f4 := hR.frozen 4
      obtain ⟨p0, p1, p2, p3, p4⟩ := blk5 (blk_put5 hR (.int .u32 (lI (x + y) 0)) (.int .u32 (lI (x + y) 1)) (.int .u32 (lI (x + y) 2)) (.int .u32 (lI (x + y) 3)) (.int .u32 (lI (x + y) 4)))
      go_wp2
      exact bodyPost_ret (v := lmV (x + y)) (by simp [results, Try.results79, go_sem, p0, p1, p2, p3, p4, lmV, lmC]) rfl ⟨rfl, below_put5 hbel (by omega) _ _ _ _ _⟩
end Go.Proofs.Ytcohioplkchojaa
namespace Go.Proofs.Ytcohioplkchojaa
open Go.RowKit
theorem hI_neg (z : Int) (k : Nat) : hI (-1 - z) k = -1 - hI z k := by
  induction k with
  | zero => rfl
  | succ k ih =>
    show hI (-1 - z) k / 4294967296 = -1 - hI z k / 4294967296
    rw [ih]
    omega
theorem lI_neg (z : Int) (k : Nat) : lI (-1 - z) k = 4294967295 - lI z k := by
  unfold lI
  rw [hI_neg]
  omega
theorem u32_not_nat (a : Nat) (ha : a < 4294967296) : 4294967295 ^^^ a = 4294967295 - a := by
  have h := BitVec.toNat_not (x := BitVec.ofNat 32 a)
  rw [← BitVec.xor_allOnes, BitVec.toNat_xor, BitVec.toNat_allOnes, BitVec.toNat_ofNat] at h
  have e : a % 2 ^ 32 = a := Nat.mod_eq_of_lt (by simpa using ha)
  rw [e, Nat.xor_comm] at h
  exact h
theorem u32_not (z : Int) (h1 : 0 ≤ z) (h2 : z < 4294967296) : bits BinOp.xor IntKind.u32 (if IntKind.u32.signed = true then -1 else IntKind.u32.max) z = 4294967295 - z := by
  have h := u32_xor_nat 4294967295 z.toNat (by decide) (by omega)
  rw [u32_not_nat _ (by omega), Int.toNat_of_nonneg h1] at h
  have hm : (if IntKind.u32.signed = true then -1 else IntKind.u32.max) = ((4294967295 : Nat) : Int) := by decide
  rw [hm, h]
  omega
theorem lI_one : lI 1 0 = 1 ∧ lI 1 1 = 0 ∧ lI 1 2 = 0 ∧ lI 1 3 = 0 ∧ lI 1 4 = 0 := by decide
/-- The first k limbs turned. -/
def negC (z : Int) (k : Nat) : Array Value := #[.int .u32 (if 0 < k then lI (-1 - z) 0 else lI z 0), .int .u32 (if 1 < k then lI (-1 - z) 1 else lI z 1), .int .u32 (if 2 < k then lI (-1 - z) 2 else lI z 2), .int .u32 (if 3 < k then lI (-1 - z) 3 else lI z 3), .int .u32 (if 4 < k then lI (-1 - z) 4 else lI z 4)]
set_option maxRecDepth 100000 in
set_option maxHeartbeats 1600000 in
theorem minus_any (x : Int) (w : World) :
    Calls Try.prog 81 #[lmV x] w fun e w' => e = .returned (lmV (-x)) ∧ Below w.heap.size w w' := by
  unfold lmV lmC
  go_enter Try.func81, Try.ntmps81
  go_wp2_with fail
  have hX0 := (Blk.new w 104 #[.int .u32 (lI x 0), .int .u32 (lI x 1), .int .u32 (lI x 2), .int .u32 (lI x 3), .int .u32 (lI x 4)]).alloc (.cells #[.int .u32 0, .int .u32 0, .int .u32 0, .int .u32 0, .int .u32 0] 104)
  have hR0 := Blk.new (w.alloc (.cells #[.int .u32 (lI x 0), .int .u32 (lI x 1), .int .u32 (lI x 2), .int .u32 (lI x 3), .int .u32 (lI x 4)] 104)) 104 #[.int .u32 0, .int .u32 0, .int .u32 0, .int .u32 0, .int .u32 0]
  rw [World.size_alloc] at hR0
  have hB0 : Below w.heap.size w ((w.alloc (.cells #[.int .u32 (lI x 0), .int .u32 (lI x 1), .int .u32 (lI x 2), .int .u32 (lI x 3), .int .u32 (lI x 4)] 104)).alloc (.cells #[.int .u32 0, .int .u32 0, .int .u32 0, .int .u32 0, .int .u32 0] 104)) := ((Below.refl _ _).alloc (Nat.le_refl _) _).alloc (by simp) _
  generalize (w.alloc (.cells #[.int .u32 (lI x 0), .int .u32 (lI x 1), .int .u32 (lI x 2), .int .u32 (lI x 3), .int .u32 (lI x 4)] 104)).alloc (.cells #[.int .u32 0, .int .u32 0, .int .u32 0, .int .u32 0, .int .u32 0] 104) = w1 at *
  go_loopw [3] (fun i wr => ∃ k : Nat, k ≤ 5 ∧ i = .int .i64 (k : Int) ∧ Blk wr w.heap.size 104 (negC x k) ∧ Blk wr (w.heap.size + 1) 104 #[.int .u32 0, .int .u32 0, .int .u32 0, .int .u32 0, .int .u32 0] ∧ Below w.heap.size w wr) (fun i _ => 5 - (intOf i).toNat)
  case atStart => exact ⟨0, by omega, rfl, hX0, hR0, hB0⟩
  case round =>
    clear hX0 hR0 hB0
    obtain ⟨k, hk, rfl, hX, hR, hbel⟩ := hrel
    by_cases hlt : k < 5
    · have h5 : k = 0 ∨ k = 1 ∨ k = 2 ∨ k = 3 ∨ k = 4 := by omega
      rcases h5 with rfl | rfl | rfl | rfl | rfl
      · have hout : Blk (wr.setCell ⟨w.heap.size, 0, none⟩ (.int .u32 (4294967295 - lI x 0))) w.heap.size 104 (negC x 1) := by
          have := Blk.set_ hX 0 (.int .u32 (4294967295 - lI x 0))
          rw [← lI_neg] at this ⊢
          exact this
        obtain ⟨c0, c1, c2, c3, c4⟩ := blk5 hX
        have f0 := hX.frozen 0
        have hnot := u32_not (lI x 0) (lI_bd x 0).1 (lI_bd x 0).2
        rw [← hnot] at hout
        have HO2 := Lib.hid hout
        clear hout hnot
        go_wp2
        go_roundw
        case rel => exact ⟨1, by omega, rfl, HO2.out, Blk.far (p := ⟨w.heap.size, 0, none⟩) hR (by simp only; omega) _, hbel.setCell (p := ⟨w.heap.size, 0, none⟩) (Nat.le_refl _) _⟩
        case measure => simp [intOf]
      · have hout : Blk (wr.setCell ⟨w.heap.size, 1, none⟩ (.int .u32 (4294967295 - lI x 1))) w.heap.size 104 (negC x 2) := by
          have := Blk.set_ hX 1 (.int .u32 (4294967295 - lI x 1))
          rw [← lI_neg] at this ⊢
          exact this
        obtain ⟨c0, c1, c2, c3, c4⟩ := blk5 hX
        have f0 := hX.frozen 1
        have hnot := u32_not (lI x 1) (lI_bd x 1).1 (lI_bd x 1).2
        rw [← hnot] at hout
        have HO2 := Lib.hid hout
        clear hout hnot
        go_wp2
        go_roundw
        case rel => exact ⟨2, by omega, rfl, HO2.out, Blk.far (p := ⟨w.heap.size, 1, none⟩) hR (by simp only; omega) _, hbel.setCell (p := ⟨w.heap.size, 1, none⟩) (Nat.le_refl _) _⟩
        case measure => simp [intOf]
      · have hout : Blk (wr.setCell ⟨w.heap.size, 2, none⟩ (.int .u32 (4294967295 - lI x 2))) w.heap.size 104 (negC x 3) := by
          have := Blk.set_ hX 2 (.int .u32 (4294967295 - lI x 2))
          rw [← lI_neg] at this ⊢
          exact this
        obtain ⟨c0, c1, c2, c3, c4⟩ := blk5 hX
        have f0 := hX.frozen 2
        have hnot := u32_not (lI x 2) (lI_bd x 2).1 (lI_bd x 2).2
        rw [← hnot] at hout
        have HO2 := Lib.hid hout
        clear hout hnot
        go_wp2
        go_roundw
        case rel => exact ⟨3, by omega, rfl, HO2.out, Blk.far (p := ⟨w.heap.size, 2, none⟩) hR (by simp only; omega) _, hbel.setCell (p := ⟨w.heap.size, 2, none⟩) (Nat.le_refl _) _⟩
        case measure => simp [intOf]
      · have hout : Blk (wr.setCell ⟨w.heap.size, 3, none⟩ (.int .u32 (4294967295 - lI x 3))) w.heap.size 104 (negC x 4) := by
          have := Blk.set_ hX 3 (.int .u32 (4294967295 - lI x 3))
          rw [← lI_neg] at this ⊢
          exact this
        obtain ⟨c0, c1, c2, c3, c4⟩ := blk5 hX
        have f0 := hX.frozen 3
        have hnot := u32_not (lI x 3) (lI_bd x 3).1 (lI_bd x 3).2
        rw [← hnot] at hout
        have HO2 := Lib.hid hout
        clear hout hnot
        go_wp2
        go_roundw
        case rel => exact ⟨4, by omega, rfl, HO2.out, Blk.far (p := ⟨w.heap.size, 3, none⟩) hR (by simp only; omega) _, hbel.setCell (p := ⟨w.heap.size, 3, none⟩) (Nat.le_refl _) _⟩
        case measure => simp [intOf]
      · have hout : Blk (wr.setCell ⟨w.heap.size, 4, none⟩ (.int .u32 (4294967295 - lI x 4))) w.heap.size 104 (negC x 5) := by
          have := Blk.set_ hX 4 (.int .u32 (4294967295 - lI x 4))
          rw [← lI_neg] at this ⊢
          exact this
        obtain ⟨c0, c1, c2, c3, c4⟩ := blk5 hX
        have f0 := hX.frozen 4
        have hnot := u32_not (lI x 4) (lI_bd x 4).1 (lI_bd x 4).2
        rw [← hnot] at hout
        have HO2 := Lib.hid hout
        clear hout hnot
        go_wp2
        go_roundw
        case rel => exact ⟨5, by omega, rfl, HO2.out, Blk.far (p := ⟨w.heap.size, 4, none⟩) hR (by simp only; omega) _, hbel.setCell (p := ⟨w.heap.size, 4, none⟩) (Nat.le_refl _) _⟩
        case measure => simp [intOf]
    · have hk5 : k = 5 := by omega
      subst hk5
      have hX2 : Blk wr w.heap.size 104 (lmC (-1 - x)) := hX
      clear hX
      obtain ⟨c0, c1, c2, c3, c4⟩ := blk5 hX2
      go_wp2_with fail
      have hone : (#[.int .u32 1, .int .u32 0, .int .u32 0, .int .u32 0, .int .u32 0] : Array Value) = lmC 1 := by
        unfold lmC
        rw [lI_one.1, lI_one.2.1, lI_one.2.2.1, lI_one.2.2.2.1, lI_one.2.2.2.2]
      rw [hone]
      refine (plus_any (-1 - x) 1 wr).mono ?_
      rintro _ w2 ⟨rfl, hb2⟩
      have hneg : -1 - x + 1 = -x := by omega
      rw [hneg]
      have hR2 : Blk w2 (w.heap.size + 1) 104 #[.int .u32 0, .int .u32 0, .int .u32 0, .int .u32 0, .int .u32 0] := Blk.below hR hb2 (Blk.lt hR)
      have hbel2 : Below w.heap.size w w2 := below_on hbel (Nat.le_refl _) hb2
      unfold lmV lmC
      obtain ⟨r0, r1, r2, r3, r4⟩ := blk5 hR2
      have f0 := hR2.frozen 0
      have f1 := hR2.frozen 1
      have f2 := hR2.frozen 2
      have f3 := hR2.frozen 3
      have f4 := hR2.frozen 4
      obtain ⟨p0, p1, p2, p3, p4⟩ := blk5 (blk_put5 hR2 (.int .u32 (lI (-x) 0)) (.int .u32 (lI (-x) 1)) (.int .u32 (lI (-x) 2)) (.int .u32 (lI (-x) 3)) (.int .u32 (lI (-x) 4)))
      go_wp2
      exact bodyPost_ret (v := lmV (-x)) (by simp [results, Try.results81, go_sem, p0, p1, p2, p3, p4, lmV, lmC]) rfl ⟨rfl, below_put5 hbel2 (by omega) _ _ _ _ _⟩
end Go.Proofs.Ytcohioplkchojaa
namespace Go.Proofs.Ytcohioplkchojaa
open Go.RowKit
theorem limb_parts (z : Int) (h : small z) :
    z % 18446744073709551616 % 4294967296 = lI z 0 ∧ z % 18446744073709551616 / 4294967296 % 4294967296 = lI z 1 ∧
    z / 18446744073709551616 % 18446744073709551616 % 4294967296 = lI z 2 ∧ z / 18446744073709551616 % 18446744073709551616 / 4294967296 % 4294967296 = lI z 3 ∧
    lI z 4 = if z / 18446744073709551616 < 0 then 4294967295 else 0 := by
  unfold small at h
  unfold lI hI hI hI hI hI
  refine ⟨by omega, by omega, by omega, by omega, ?_⟩
  split <;> omega
set_option maxRecDepth 100000 in
set_option maxHeartbeats 1600000 in
theorem limbs_any (z : Int) (w : World) (hz : small z) :
    Calls Try.prog 80 #[i128 z] w fun e w' => e = .returned (lmV z) ∧ Below w.heap.size w w' := by
  obtain ⟨e0, e1, e2, e3, e4⟩ := limb_parts z hz
  unfold i128 lmV lmC
  have hsm : z / 18446744073709551616 < 9223372036854775808 ∧ -9223372036854775808 ≤ z / 18446744073709551616 := by unfold small at hz; omega
  obtain ⟨hi, hhi⟩ : ∃ y, y = z / 18446744073709551616 := ⟨_, rfl⟩
  obtain ⟨lo, hlo⟩ : ∃ y, y = z % 18446744073709551616 := ⟨_, rfl⟩
  obtain ⟨hu, hhu⟩ : ∃ y, y = hi % 18446744073709551616 := ⟨_, rfl⟩
  have hw : IntKind.u64.wrap hi = hu := by rw [hhu, u64_wrap]
  rw [← hhi, ← hhu] at e2 e3
  rw [← hlo] at e0 e1 ⊢
  rw [← hhi] at e4 hsm ⊢
  generalize lI z 0 = l0 at *
  generalize lI z 1 = l1 at *
  generalize lI z 2 = l2 at *
  generalize lI z 3 = l3 at *
  generalize lI z 4 = l4 at *
  clear hz hhi hlo hhu
  go_enter Try.func80, Try.ntmps80
  go_wp2_with fail
  · rename_i hn
    have e4' : l4 = 4294967295 := by rw [e4, if_pos (by omega)]
    subst e4'
    exact bodyPost_ret (v := .agg #[.int .u32 l0, .int .u32 l1, .int .u32 l2, .int .u32 l3, .int .u32 4294967295]) (by simp [results, Try.results80, go_sem]) rfl ⟨rfl, (((Below.refl _ _).alloc (Nat.le_refl _) _).alloc (by simp) _).alloc (by simp; omega) _⟩
  · rename_i hn
    have e4' : l4 = 0 := by rw [e4, if_neg (by omega)]
    subst e4'
    exact bodyPost_ret (v := .agg #[.int .u32 l0, .int .u32 l1, .int .u32 l2, .int .u32 l3, .int .u32 0]) (by simp [results, Try.results80, go_sem]) rfl ⟨rfl, (((Below.refl _ _).alloc (Nat.le_refl _) _).alloc (by simp) _).alloc (by simp; omega) _⟩
end Go.Proofs.Ytcohioplkchojaa
namespace Go.Proofs.Ytcohioplkchojaa
open Go.RowKit
theorem u64_or_add (a b : Int) (ha : 0 ≤ a) (ha2 : a < 4294967296) (hb : 0 ≤ b) (hb2 : b < 4294967296) : bits BinOp.or IntKind.u64 (a * 4294967296) b = a * 4294967296 + b := by
  obtain ⟨x, rfl⟩ := Int.eq_ofNat_of_zero_le ha
  obtain ⟨y, rfl⟩ := Int.eq_ofNat_of_zero_le hb
  have h := u64_or_nat (x * 4294967296) y (by omega) (by omega)
  have e : x * 4294967296 ||| y = x * 4294967296 + y := by
    have := Nat.shiftLeft_add_eq_or_of_lt (i := 32) (b := y) (by omega) x
    rw [Nat.shiftLeft_eq] at this
    exact this.symm
  rw [e] at h
  rw [Int.natCast_add, Int.natCast_mul] at h
  exact h
set_option maxRecDepth 100000 in
set_option maxHeartbeats 1600000 in
theorem whole_any (z : Int) (w : World) (hz : small z) :
    Calls Try.prog 78 #[lmV z] w fun e w' => e = .returned (.tuple #[i128 z, .bool true]) ∧ Below w.heap.size w w' := by
  obtain ⟨e0, e1, e2, e3, e4⟩ := limb_parts z hz
  have g0 := lI_bd z 0
  have g1 := lI_bd z 1
  have g2 := lI_bd z 2
  have g3 := lI_bd z 3
  unfold i128 lmV lmC
  have hsm : z / 18446744073709551616 < 9223372036854775808 ∧ -9223372036854775808 ≤ z / 18446744073709551616 := by unfold small at hz; omega
  have hlo0 : 0 ≤ z % 18446744073709551616 ∧ z % 18446744073709551616 < 18446744073709551616 := by omega
  obtain ⟨hi, hhi⟩ : ∃ y, y = z / 18446744073709551616 := ⟨_, rfl⟩
  obtain ⟨lo, hlo⟩ : ∃ y, y = z % 18446744073709551616 := ⟨_, rfl⟩
  obtain ⟨hu, hhu⟩ : ∃ y, y = hi % 18446744073709551616 := ⟨_, rfl⟩
  rw [← hhi, ← hhu] at e2 e3
  rw [← hlo] at e0 e1 hlo0 ⊢
  rw [← hhi] at e4 hsm ⊢
  generalize lI z 0 = l0 at *
  generalize lI z 1 = l1 at *
  generalize lI z 2 = l2 at *
  generalize lI z 3 = l3 at *
  generalize lI z 4 = l4 at *
  have H1 : bits BinOp.or IntKind.u64 (l3 * 4294967296) l2 = hu := by rw [u64_or_add _ _ g3.1 g3.2 g2.1 g2.2]; omega
  have H2 : bits BinOp.or IntKind.u64 (l1 * 4294967296) l0 = lo := by rw [u64_or_add _ _ g1.1 g1.2 g0.1 g0.2]; omega
  have H3 : IntKind.i64.wrap hu = hi := by rw [IntKind.wrap_i64]; omega
  have H4 : hi < 0 ↔ 2147483648 ≤ l3 := by omega
  clear hz hhi hlo hhu
  go_enter Try.func78, Try.ntmps78
  go_wp2_with fail
  · rw [if_pos (by omega)] at e4
    subst e4
    go_region
    all_goals go_wp2
    exact bodyPost_ret (v := .tuple #[.agg #[.int .i64 hi, .int .u64 lo], .bool true]) (by simp [results, Try.results78, go_sem]) rfl ⟨rfl, below_drewN (((Below.refl _ _).alloc (Nat.le_refl _) _).alloc (by simp) _) 1⟩
  · rw [if_neg (by omega)] at e4
    subst e4
    go_region
    all_goals go_wp2
    exact bodyPost_ret (v := .tuple #[.agg #[.int .i64 hi, .int .u64 lo], .bool true]) (by simp [results, Try.results78, go_sem]) rfl ⟨rfl, below_drewN (((Below.refl _ _).alloc (Nat.le_refl _) _).alloc (by simp) _) 1⟩
end Go.Proofs.Ytcohioplkchojaa

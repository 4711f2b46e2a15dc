/- Rows of ints, two side by side; merestoneref02.SameInts. -/
import Derived.Test.YtgkcenhopmjmlaaGreatClean
namespace Go.Proofs.YtgkcenhopmjmlaaGreat
open Go.RowKit
def intsV (l : List Int) : List Value := l.map (fun z => .int .i64 z)
theorem intsV_append (a b : List Int) : intsV (a ++ b) = intsV a ++ intsV b := List.map_append
theorem intsV_one (z : Int) : ∀ u ∈ intsV [z], u.oneCell' = true := fun u hu => by
  obtain rfl : u = .int .i64 z := by simpa [intsV] using hu
  rfl
theorem info_i : (Tryz.prog.info? 3).map (fun i => (i.zero, i.size, i.bytes)) = some (some (.int .i64 0), 1, 8) := by kernel_rfl
theorem Reads.lenI {w : World} {B n : Nat} {A : Option Addr} {xs : List Int} (h : Reads w B 1 A n (intsV xs)) : xs.length = n := by
  have := h.1
  simpa [intsV] using this
theorem Reads.int {w : World} {B n : Nat} {A : Option Addr} {xs : List Int} (h : Reads w B 1 A n (intsV xs)) {k : Nat} (hk : k < n) : ∃ ad z, A = some ad ∧ ad.block < B ∧ xs[k]? = some z ∧ w.cell? (ad.add k) = some (.int .i64 z) := by
  obtain ⟨ad, u, e, hb, hu, hc⟩ := h.at_ hk
  unfold intsV at hu
  rw [List.getElem?_map] at hu
  obtain ⟨z, hz, rfl⟩ := Option.map_eq_some_iff.1 hu
  exact ⟨ad, z, e, hb, hz, hc⟩
/-- Two own rows of ints, each with its own block. -/
structure TwoI (B : Nat) (W : World) (v1 : Value) (n1 : Nat) (xs : List Int) (v2 : Value) (n2 : Nat) (ys : List Int) : Prop where
  one : W.ownsRow B 3 1 v1 n1 (intsV xs)
  two : W.ownsRow B 3 1 v2 n2 (intsV ys)
  sep : ∀ g, v1.ownBlock = some g → v2.ownBlock ≠ some g
theorem TwoI.swap {B : Nat} {W : World} {v1 v2 : Value} {n1 n2 : Nat} {xs ys : List Int} (h : TwoI B W v1 n1 xs v2 n2 ys) : TwoI B W v2 n2 ys v1 n1 xs := ⟨h.two, h.one, fun g h2 h1 => h.sep g h1 h2⟩
theorem TwoI.nil {B : Nat} {W : World} : TwoI B W (.slice none 0 0) 0 [] (.slice none 0 0) 0 [] := ⟨World.ownsRow_nil _ _ _ _, World.ownsRow_nil _ _ _ _, fun g h => by simp [Value.ownBlock] at h⟩
theorem TwoI.on {B : Nat} {W W' : World} {v1 v2 : Value} {n1 n2 : Nat} {xs ys : List Int} (h : TwoI B W v1 n1 xs v2 n2 ys) (hb : Below W.heap.size W W') : TwoI B W' v1 n1 xs v2 n2 ys := ⟨own_below h.one hb, own_below h.two hb, h.sep⟩
theorem TwoI.app {B m : Nat} {W W' : World} {v1 v2 v' : Value} {n1 n2 : Nat} {xs ys zs : List Int} (h : TwoI B W v1 n1 xs v2 n2 ys) (ho : W'.ownsRow B 3 1 v' m (intsV zs)) (hg : W.grownBy W' v1.ownBlock) (hat : v'.ownBlock = v1.ownBlock ∨ v'.ownBlock = some W.heap.size) : TwoI B W' v' m zs v2 n2 ys := by
  refine ⟨ho, own_heap h.two fun g hg2 => hg.block g (h.two.lt g hg2).2 (fun e => h.sep g e.symm hg2), fun g h1 h2 => ?_⟩
  rcases hat with e | e
  · exact h.sep g (e ▸ h1) h2
  · have := (h.two.lt g h2).2
    rw [e] at h1
    injection h1 with h1
    omega
set_option maxRecDepth 100000 in
set_option maxHeartbeats 1600000 in
theorem sameInts_any (xs ys : List Int) (A A' : Option Addr) (n c n' c' : Nat) (w : World) (h1 : Reads w w.heap.size 1 A n (intsV xs)) (h2 : Reads w w.heap.size 1 A' n' (intsV ys)) (hn : n ≤ 8796093022208) :
    Calls Tryz.prog 25 #[.slice A n c, .slice A' n' c'] w fun e w' => e = .returned (.bool (decide (xs = ys))) ∧ Below w.heap.size w w' := by
  have hl1 := h1.lenI
  have hl2 := h2.lenI
  have H1 := Lib.hid h1
  have H2 := Lib.hid h2
  have HL := Lib.hid (And.intro hl1 hl2)
  obtain ⟨b, hb⟩ : ∃ b, b = decide (xs = ys) := ⟨_, rfl⟩
  rw [← hb]
  have HB := Lib.hid hb
  clear hb h1 h2 hl1 hl2
  go_enter Tryz.func25, Tryz.ntmps25
  go_wp2_with fail
  go_loopw [5] (fun i wr => ∃ k : Nat, k ≤ n ∧ k ≤ n' ∧ i = .int .i64 (k : Int) ∧ Hid (∀ j, j < k → xs[j]? = ys[j]?) ∧ Below w.heap.size w wr) (fun i _ => n - (intOf i).toNat)
  case atStart => exact ⟨0, Nat.zero_le _, Nat.zero_le _, rfl, (fun j hj => absurd hj (by omega)), Below.refl _ _⟩
  case round =>
    obtain ⟨k, hk, hk', rfl, heq, hbel⟩ := hrel
    have HE := Lib.hid heq.out
    clear heq
    have hd : k < n ∧ k < n' ∨ ¬ (k < n) ∨ (k < n ∧ ¬ k < n') := by omega
    rcases hd with ⟨hlt, hlt'⟩ | hlt | ⟨hlt, hlt'⟩
    · have g1 : (k : Int) < (n : Int) := by omega
      have g2 : (k : Int) < (n' : Int) := by omega
      have hw1 : IntKind.i64.wrap ((k : Int) + 1) = (k : Int) + 1 := by rw [IntKind.wrap_i64]; omega
      obtain ⟨ad, z, rfl, hbd, hz, p1⟩ := (H1.out.below hbel).int hlt
      obtain ⟨ad', z', rfl, hbd', hz', p2⟩ := (H2.out.below hbel).int hlt'
      have HZ := Lib.hid (And.intro hz hz')
      clear hz hz' hbd hbd'
      by_cases e : z = z'
      · subst e
        have HE2 : Hid (∀ j, j < k + 1 → xs[j]? = ys[j]?) := fun j hj => by
          by_cases hjk : j = k
          · rw [hjk, HZ.out.1, HZ.out.2]
          · exact HE.out j (by omega)
        have HW := Lib.hid hbel
        clear HZ HE hbel
        go_wp2_with fail
        go_quiet (fail)
        go_wp2_with fail
        go_roundw
        case rel => exact ⟨k + 1, by omega, by omega, by go_num, HE2, below_drewN HW.out _⟩
        case measure => simp [intOf]; omega
      · have HF : Hid (b = false) := by
          show _ = _
          rw [HB.out]
          refine decide_eq_false fun h => e ?_
          have h2 := HZ.out.1
          rw [h, HZ.out.2] at h2
          injection h2 with h2
          exact h2.symm
        have e' : (z == z') = false := beq_eq_false_iff_ne.mpr e
        have HW := Lib.hid hbel
        clear HZ HE hbel
        go_wp2_with fail
        go_quiet (fail)
        go_wp2_with fail
        go_ret
        exact ⟨by rw [HF.out]; rfl, below_drewN HW.out _⟩
    · have g1 : ¬ (k : Int) < (n : Int) := by omega
      have hF : Hid (b = decide ((n : Int) = (n' : Int))) := by
        show _ = _
        rw [HB.out]
        refine decide_eq_decide.mpr ⟨fun h => by rw [← HL.out.1, ← HL.out.2, h], fun h => List.ext_getElem? fun j => ?_⟩
        by_cases hj : j < k
        · exact HE.out j hj
        · rw [List.getElem?_eq_none (by have := HL.out.1; omega), List.getElem?_eq_none (by have := HL.out.2; omega)]
      have HW := Lib.hid hbel
      clear HE hbel
      go_wp2_with fail
      go_ret
      exact ⟨by rw [hF.out]; first | rfl | simp, HW.out⟩
    · have g1 : (k : Int) < (n : Int) := by omega
      have g2 : ¬ (k : Int) < (n' : Int) := by omega
      have g3 : ((n : Int) == (n' : Int)) = false := beq_eq_false_iff_ne.mpr (by omega)
      have hF : Hid (b = false) := by
        show _ = _
        rw [HB.out]
        exact decide_eq_false fun h => by have h1 := HL.out.1; have h2 := HL.out.2; rw [h] at h1; omega
      have HW := Lib.hid hbel
      clear HE hbel
      go_wp2_with fail
      go_ret
      exact ⟨by rw [hF.out]; first | rfl | simp [g3], HW.out⟩
end Go.Proofs.YtgkcenhopmjmlaaGreat

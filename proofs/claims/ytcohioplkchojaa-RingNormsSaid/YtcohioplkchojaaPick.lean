/- slices.Index, slices.Grow, slices.Concat at a ring: the walks. -/
import Derived.Test.YtcohioplkchojaaTwice
import Derived.Shelf.SlicesE.Kit
import Derived.Shelf.Spec.SlicesGrow
import Derived.Laws.StructEq
import Derived.Lib.SliceRun
namespace Go.Proofs.Ytcohioplkchojaa
open Go.RowKit Go.Shelf Go.Lib
def growPt_ren : Go.Shelf.Ren := ⟨fun | 4 => 102 | n => n, fun | 0 => 0 | 3 => 3 | 4 => 4 | 9 => 9 | 20 => 20 | 22 => 23 | 25 => 35 | n => n, fun | n => n⟩
theorem growPt : Go.Proofs.Lays8.n4 Try.prog growPt_ren := {
  mixed := by kernel_rfl
  f4 := ⟨Try.f102.name, by decide, Try.func102.trans (congrArg some (by kernel_rfl))⟩
  t0 := Try.underlying0
  a0 := Try.isAgg0
  z0 := Try.sizeOf0
  v0 := Try.zeroValue0
  t3 := Try.underlying3
  a3 := Try.isAgg3
  z3 := Try.sizeOf3
  v3 := Try.zeroValue3
  t4 := Try.underlying4
  a4 := Try.isAgg4
  z4 := Try.sizeOf4
  v4 := Try.zeroValue4
  t9 := Try.underlying9
  a9 := Try.isAgg9
  z9 := Try.sizeOf9
  v9 := Try.zeroValue9
  t20 := Try.underlying20
  a20 := Try.isAgg20
  z20 := Try.sizeOf20
  v20 := Try.zeroValue20
  t22 := Try.underlying23
  a22 := Try.isAgg23
  z22 := Try.sizeOf23
  v22 := Try.zeroValue23
}
theorem eqPt_at : EqlAt Try.prog 35 (fun p => .agg (encPt p).toArray) (fun p q => decide (p = q)) := by
  refine ⟨fun x y w => ?_, GuardAt.agg _ (by kernel_rfl)⟩
  have u3 := Try.underlying3
  have a3 := Try.isAgg3
  have z3 := Try.sizeOf3
  have hS : Try.prog.underlying 35 = some (.struct (Try.prog.fieldsOf 35)) := by kernel_rfl
  have hp : Try.prog.stoodInHeld 35 = false := by kernel_rfl
  obtain ⟨x1, x2⟩ := x
  obtain ⟨y1, y2⟩ := y
  simp only [encPt]
  rw [run_eql_struct, show (10000 : Nat) = 9999 + 1 from rfl, run_equalIn_agg w 9999 35 _ _ hS hp]
  simp only [Program.fieldsOf, Try.underlying35]
  go_simp
  by_cases h1 : x1 = y1 <;> by_cases h2 : x2 = y2 <;> simp [h1, h2]
theorem eqPt_runs (p q : Pt) (op : BinOp) (a b : Operand) (w : World) : Sem.run Try.prog (binOp .eql 35 (.agg #[.int .i64 p.x, .int .i64 p.y]) (.agg #[.int .i64 q.x, .int .i64 q.y])) w = .ok (.bool (decide (p = q))) w ∧ Sem.run Try.prog (eqGuard op 35 a b (.agg #[.int .i64 p.x, .int .i64 p.y]) (.agg #[.int .i64 q.x, .int .i64 q.y])) w = .ok () w :=
  ⟨eqPt_at.1 p q w, eqPt_at.2 op a b p q w⟩
set_option maxHeartbeats 1600000 in
theorem indexPt_any (xs : List Pt) (A : Option Addr) (n cap k : Nat) (w : World) (hr : Reads w w.heap.size 2 A n (ptsV xs)) (hk : k < n) (hf : ∀ j, j < k → ptAt xs j ≠ ptAt xs k) (hn : n ≤ 8796093022208) :
    Calls Try.prog 91 #[.slice A n cap, ptV (ptAt xs k)] w fun e w' => e = .returned (.int .i64 (k : Int)) ∧ Below w.heap.size w w' := by
  have HF := Lib.hid hf
  clear hf
  obtain ⟨Q, hQ⟩ : ∃ Q, Q = ptAt xs k := ⟨_, rfl⟩
  rw [← hQ]
  have HQ := Lib.hid hQ
  clear hQ
  have hB0 := (Below.refl w.heap.size w).alloc (Nat.le_refl _) (.cells #[.int .i64 Q.x, .int .i64 Q.y] 35)
  have hP0 : PtK (w.alloc (.cells #[.int .i64 Q.x, .int .i64 Q.y] 35)) w.heap.size Q := PtK.new w Q
  have H0 := Lib.hid (And.intro hB0 hP0)
  clear hB0 hP0
  unfold ptV
  go_enter Try.func91, Try.ntmps91
  go_wp2
  go_loopw [8] (fun i wr => ∃ m : Nat, m ≤ k ∧ i = .int .i64 (m : Int) ∧ Below w.heap.size w wr ∧ PtK wr w.heap.size Q) (fun i _ => n - (intOf i).toNat)
  case atStart => exact ⟨0, Nat.zero_le _, rfl, H0.out⟩
  case round =>
    clear H0
    obtain ⟨m, hm, rfl, hbel, hK⟩ := hrel
    have hmn : m < n := by omega
    have hmn' : (m : Int) < (n : Int) := by omega
    have hw1 : IntKind.i64.wrap ((m : Int) + 1) = (m : Int) + 1 := by rw [IntKind.wrap_i64]; omega
    obtain ⟨ad, rfl, -, -, -, -⟩ := hr.pt hmn
    obtain ⟨-, p1, p2⟩ := (hr.below hbel).ptA hmn
    obtain ⟨q1, q2, -, -, -⟩ := hK.facts
    have hmk : m = k → decide (Q = ptAt xs m) = true := fun h => by rw [h, HQ.out]; simp
    have hnk : m ≠ k → decide (Q = ptAt xs m) = false := fun h => by
      have := HF.out m (by omega)
      rw [HQ.out]
      simpa using fun e => this e.symm
    have he := fun W => (eqPt_runs Q (ptAt xs m) .eql (.tmp 0) (.tmp 0) W).1
    have hg := fun op a b W => (eqPt_runs Q (ptAt xs m) op a b W).2
    generalize ptAt xs m = P at *
    have HB := Lib.hid (And.intro hbel hK)
    clear hbel hK hr
    by_cases hmk' : m = k
    · rw [hmk hmk'] at he
      have HM := Lib.hid hmk'
      clear hmk hnk hmk'
      go_wp2
      go_quiet (fail)
      go_wp2
      go_ret
      exact ⟨by rw [HM.out]; rfl, below_drewN HB.out.1 _⟩
    · rw [hnk hmk'] at he
      have HM : Hid (m + 1 ≤ k) := by show _ ≤ _; omega
      clear hmk hnk hmk'
      go_wp2
      go_quiet (fail)
      go_wp2
      go_roundw
      case rel => exact ⟨m + 1, HM.out, by go_num, below_drewN HB.out.1 _, HB.out.2⟩
      case measure => simp [intOf]; omega
theorem newPt_any (n : Nat) (w : World) (h1 : 1 ≤ n) (hn : n ≤ 8796093022208) :
    Calls Try.prog 102 #[.slice none 0 0, .int .i64 (n : Int)] w fun e w' => ∃ A c, e = .returned (.slice A 0 c) ∧ w'.ownsRow w.heap.size 35 2 (.slice A 0 c) 0 [] ∧ Below w.heap.size w w' := by
  obtain ⟨i0, hi0, hz0, hz1, hz2⟩ := info_parts info_pt
  have hcon := Any8.slices_Grow_grow growPt i0 _ hi0 hz0 (by omega) none 0 0 n [] w (Nat.le_refl _) (by omega) (by rw [hz2]; omega) (by omega) (by simp) (fun _ => rfl) (fun a h => by cases h)
  change Calls Try.prog 102 _ _ _ at hcon
  refine hcon.mono ?_
  rintro e w' ⟨rfl, rfl⟩
  have hG := grownCap_ge w (0 + n) 0 (growPt_ren.t 25)
  have hG2 := grownCap_le_maxLen w (0 + n) 0 (growPt_ren.t 25) (by unfold maxLen; omega)
  generalize grownCap w (0 + n) 0 (growPt_ren.t 25) = G at *
  refine ⟨_, _, rfl, World.ownsRow_made w.drew _ _ (Nat.le_refl _) hG2 ?_, ((Below.refl _ _).drew).alloc (Nat.le_refl _) _⟩
  simp [Builtin.zeroCells, Value.cells]
  omega
set_option maxRecDepth 100000 in
set_option maxHeartbeats 1600000 in
theorem concatPt_any (xs ys : List Pt) (A B : Option Addr) (n m ca cb g c : Nat) (w : World) (hr : Reads w w.heap.size 2 A n (ptsV xs)) (hs : Reads w w.heap.size 2 B m (ptsV ys)) (hg : g < w.heap.size) (c1 : w.cell? ⟨g, 0, none⟩ = some (.slice A n ca)) (c2 : w.cell? ⟨g, 1, none⟩ = some (.slice B m cb)) (h1 : 1 ≤ n + m) (hn : n + m ≤ 1048576) :
    Calls Try.prog 93 #[.slice (some ⟨g, 0, none⟩) 2 c] w fun e w' => ∃ A' c', e = .returned (.slice A' (n + m) c') ∧ w'.ownsRow w.heap.size 35 2 (.slice A' (n + m) c') (n + m) (ptsV (xs ++ ys)) ∧ Below w.heap.size w w' := by
  obtain ⟨i0, hi0, hz0, hz1, hz2⟩ := info_parts info_pt
  have HR := Lib.hid (And.intro hr hs)
  have HL := Lib.hid (And.intro hr.lenPt hs.lenPt)
  have hx1 : IntKind.i64.wrap (0 + (n : Int)) = (n : Int) := IntWalk.i64_in _ (by omega) |>.trans (by omega)
  have hx2 : IntKind.i64.wrap ((n : Int) + (m : Int)) = (n : Int) + (m : Int) := IntWalk.i64_in _ (by omega)
  have hx3 : ¬ (n : Int) < 0 := by omega
  have hx4 : ¬ (n : Int) + (m : Int) < 0 := by omega
  clear hr hs
  go_enter Try.func93, Try.ntmps93
  go_wp2_with fail
  go_loopw [3, 11] (fun s i wr => ∃ k : Nat, k ≤ 2 ∧ i = .int .i64 (k : Int) ∧ (k = 0 → s = .int .i64 0) ∧ (k = 1 → s = .int .i64 (n : Int)) ∧ (k = 2 → s = .int .i64 ((n : Int) + (m : Int))) ∧ wr = w) (fun _ i _ => 2 - (intOf i).toNat)
  case atStart => exact ⟨0, by omega, rfl, fun _ => rfl, fun h => absurd h (by omega), fun h => absurd h (by omega), rfl⟩
  case round =>
    obtain ⟨k, hk, rfl, k0, k1, k2, rfl⟩ := hrel
    have h3 : k = 0 ∨ k = 1 ∨ k = 2 := by omega
    rcases h3 with rfl | rfl | rfl
    · obtain rfl := k0 rfl
      clear k0 k1 k2
      go_wp2_with fail
      go_roundw
      case rel => exact ⟨1, by omega, rfl, fun h => absurd h (by omega), fun _ => by go_num, fun h => absurd h (by omega), by first | rfl | trivial⟩
      case measure => simp [intOf]
    · obtain rfl := k1 rfl
      clear k0 k1 k2
      go_wp2_with fail
      go_roundw
      case rel => exact ⟨2, by omega, rfl, fun h => absurd h (by omega), fun h => absurd h (by omega), fun _ => by go_num, by first | rfl | trivial⟩
      case measure => simp [intOf]
    · obtain rfl := k2 rfl
      clear k0 k1 k2
      obtain ⟨W0, hW0⟩ : ∃ W : World, W = wr := ⟨_, rfl⟩
      subst hW0
      have HK := newPt_any (n + m) W0 h1 (by omega)
      rw [show ((n + m : Nat) : Int) = (n : Int) + (m : Int) by omega] at HK
      have HK := Lib.hid HK
      go_wp2_with fail
      refine HK.out.mono ?_
      rintro e w1 ⟨A1, c1', rfl, hown, hbel⟩
      have H1 := Lib.hid (And.intro hown hbel)
      clear hown hbel HK
      go_wp2_with fail
      obtain ⟨wo, hwo⟩ : ∃ wo : World, wo = w1 := ⟨_, rfl⟩
      rw [← hwo] at H1
      rw [← hwo]
      clear hwo
      go_loopw [6, 27] (fun s i wx => ∃ k : Nat, k ≤ 2 ∧ i = .int .i64 (k : Int) ∧ (∃ A' c', s = .slice A' (if k = 0 then 0 else if k = 1 then n else n + m) c' ∧ wx.ownsRow W0.heap.size 35 2 (.slice A' (if k = 0 then 0 else if k = 1 then n else n + m) c') (if k = 0 then 0 else if k = 1 then n else n + m) (ptsV (if k = 0 then [] else if k = 1 then xs else xs ++ ys))) ∧ Below W0.heap.size W0 wx) (fun _ i _ => 2 - (intOf i).toNat)
      case atStart => exact ⟨0, by omega, rfl, ⟨A1, c1', rfl, H1.out.1⟩, H1.out.2⟩
      case round =>
        clear H1
        obtain ⟨k, hk, rfl, ⟨A', c', rfl, hown⟩, hbel⟩ := hrel
        have h3 : k = 0 ∨ k = 1 ∨ k = 2 := by omega
        rcases h3 with rfl | rfl | rfl
        · have hown' : wr.ownsRow W0.heap.size 35 2 (.slice A' 0 c') 0 [] := hown
          have cc := (hbel.cell (p := ⟨g, 0, none⟩) hg).trans c1
          have hrd := HR.out.1.below hbel
          clear hown
          go_wp2_with (at_builtin; refine wpList_append_any _ rfl (.tmp 31) (.tmp 32) _ rfl W0.heap.size 35 i0 _ 2 16 Try.underlying23 hi0 hz0 hz1 hz2 rfl (by omega) (.slice A' 0 c') 0 _ rfl hown' W0.heap.size A n ca _ rfl hrd (ptsV_one _) (by simp only [maxLen]; omega) (by omega) hbel.size ?_
                       intro v6 w6 hown6 hg6 hat6)
          have hB6 : Below W0.heap.size W0 w6 := hbel.grown hg6 hbel.size (fun q hq => (hown'.lt q hq).1)
          rw [Nat.zero_add, List.nil_append] at hown6
          obtain ⟨A6, c6, rfl⟩ := own_form hown6
          have H6 := Lib.hid (And.intro hown6 hB6)
          clear hown6 hB6 hg6 hat6 hown' hbel hrd
          go_wp2_with fail
          go_roundw
          case rel => exact ⟨1, by omega, rfl, ⟨A6, c6, rfl, H6.out.1⟩, H6.out.2⟩
          case measure => simp [intOf]
        · have hown' : wr.ownsRow W0.heap.size 35 2 (.slice A' n c') n (ptsV xs) := hown
          have cc := (hbel.cell (p := ⟨g, 1, none⟩) hg).trans c2
          have hrd := HR.out.2.below hbel
          clear hown
          go_wp2_with (at_builtin; refine wpList_append_any _ rfl (.tmp 31) (.tmp 32) _ rfl W0.heap.size 35 i0 _ 2 16 Try.underlying23 hi0 hz0 hz1 hz2 rfl (by omega) (.slice A' n c') n _ rfl hown' W0.heap.size B m cb _ rfl hrd (ptsV_one _) (by simp only [maxLen]; omega) (by omega) hbel.size ?_
                       intro v6 w6 hown6 hg6 hat6)
          have hB6 : Below W0.heap.size W0 w6 := hbel.grown hg6 hbel.size (fun q hq => (hown'.lt q hq).1)
          rw [← ptsV_append] at hown6
          obtain ⟨A6, c6, rfl⟩ := own_form hown6
          have H6 := Lib.hid (And.intro hown6 hB6)
          clear hown6 hB6 hg6 hat6 hown' hbel hrd
          go_wp2_with fail
          go_roundw
          case rel => exact ⟨2, by omega, rfl, ⟨A6, c6, rfl, H6.out.1⟩, H6.out.2⟩
          case measure => simp [intOf]
        · have hown' : wr.ownsRow W0.heap.size 35 2 (.slice A' (n + m) c') (n + m) (ptsV (xs ++ ys)) := hown
          have H7 := Lib.hid (And.intro hown' hbel)
          clear hown hown' hbel
          go_wp2_with fail
          go_ret
          exact ⟨A', c', rfl, H7.out⟩
end Go.Proofs.Ytcohioplkchojaa

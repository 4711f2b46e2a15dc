/- wide.Of, wide.Add: the walks. -/
/- wide.Total: the walk. -/
import Derived.IntWalk
import Derived.Laws.Externs
import Derived.Test.YtgkcenhopmjmlaaGreatPtW
namespace Go.Proofs.YtgkcenhopmjmlaaGreat
open Go.RowKit
/-- A whole number's two halves. -/
def i128 (z : Int) : Value := .agg #[.int .i64 (z / 18446744073709551616), .int .u64 (z % 18446744073709551616)]
/-- The numbers that are reckoned with here. -/
def small (z : Int) : Prop := -1267650600228229401496703205376 ≤ z ∧ z ≤ 1267650600228229401496703205376
theorem add64_law (x y c : Int) (hx : 0 ≤ x) (hy : 0 ≤ y) (hc0 : 0 ≤ c) (hc : c ≤ 1) (w : World) :
    (callFunc 217 #[.int .u64 x, .int .u64 y, .int .u64 c]).run Tryz.prog w =
      .ok (.value (.tuple #[.int .u64 ((x + y + c) % 18446744073709551616), .int .u64 ((x + y + c) / 18446744073709551616)])) w := by
  rw [run_callFunc_extern Tryz.func217 (by kernel_rfl) (by kernel_rfl) (by kernel_rfl) (e := add64Entry) (by kernel_rfl), run_add64 x y c hx hy hc0 hc]
  rfl
theorem of_any (n : Int) (w : World) (h1 : -9223372036854775808 ≤ n) (h2 : n ≤ 9223372036854775807) :
    Calls Tryz.prog 215 #[.int .i64 n] w fun e w' => e = .returned (i128 n) ∧ Below w.heap.size w w' := by
  unfold i128
  go_enter Tryz.func215, Tryz.ntmps215
  go_wp2
  have e1 : n / 9223372036854775808 = n / 18446744073709551616 := by omega
  have e2 : IntKind.u64.wrap n = n % 18446744073709551616 := by simp [IntKind.wrap, IntKind.bits, IntKind.signed]
  rw [e1, e2]
  exact bodyPost_ret (v := .agg #[.int .i64 (n / 18446744073709551616), .int .u64 (n % 18446744073709551616)]) (by simp [results, Tryz.results215, go_sem]) rfl ⟨rfl, (Below.refl _ _).alloc (Nat.le_refl _) _⟩
theorem u64_wrap (z : Int) : IntKind.u64.wrap z = z % 18446744073709551616 := by simp [IntKind.wrap, IntKind.bits, IntKind.signed]
/-- How the halves add up. -/
theorem add_halves (x y : Int) : (x % 18446744073709551616 + y % 18446744073709551616 + 0) % 18446744073709551616 = (x + y) % 18446744073709551616 ∧
    ((x / 18446744073709551616) % 18446744073709551616 + (y / 18446744073709551616) % 18446744073709551616 + (x % 18446744073709551616 + y % 18446744073709551616 + 0) / 18446744073709551616) % 18446744073709551616 = ((x + y) / 18446744073709551616) % 18446744073709551616 := by omega
set_option maxRecDepth 100000 in
set_option maxHeartbeats 1600000 in
theorem add_any (x y : Int) (w : World) (hx : small x) (hy : small y) :
    Calls Tryz.prog 191 #[i128 x, i128 y] w fun e w' => e = .returned (.tuple #[i128 (x + y), .int .i64 0]) ∧ Below w.heap.size w w' := by
  unfold small at hx hy
  obtain ⟨h1, h2⟩ := hx
  obtain ⟨h3, h4⟩ := hy
  obtain ⟨xh, hxh⟩ : ∃ z, z = x / 18446744073709551616 := ⟨_, rfl⟩
  obtain ⟨xl, hxl⟩ : ∃ z, z = x % 18446744073709551616 := ⟨_, rfl⟩
  obtain ⟨yh, hyh⟩ : ∃ z, z = y / 18446744073709551616 := ⟨_, rfl⟩
  obtain ⟨yl, hyl⟩ : ∃ z, z = y % 18446744073709551616 := ⟨_, rfl⟩
  obtain ⟨sh, hsh⟩ : ∃ z, z = (x + y) / 18446744073709551616 := ⟨_, rfl⟩
  obtain ⟨sl, hsl⟩ : ∃ z, z = (x + y) % 18446744073709551616 := ⟨_, rfl⟩
  have f1 : 0 ≤ xl ∧ xl < 18446744073709551616 ∧ 0 ≤ yl ∧ yl < 18446744073709551616 := by omega
  have f2 : -68719476736 ≤ xh ∧ xh ≤ 68719476736 ∧ -68719476736 ≤ yh ∧ yh ≤ 68719476736 ∧ -137438953472 ≤ sh ∧ sh ≤ 137438953472 := by omega
  obtain ⟨cc, hcc⟩ : ∃ z, z = (xl + yl + 0) / 18446744073709551616 := ⟨_, rfl⟩
  have f3 : 0 ≤ cc ∧ cc ≤ 1 := by omega
  have f4 : (xl + yl + 0) % 18446744073709551616 = sl := by omega
  have f5 : sh = xh + yh + cc := by omega
  have A1 := add64_law xl yl 0 (by omega) (by omega) (by omega) (by omega)
  rw [f4, ← hcc] at A1
  have A2 := add64_law (xh % 18446744073709551616) (yh % 18446744073709551616) cc (by omega) (by omega) (by omega) (by omega)
  obtain ⟨c2, hc2⟩ : ∃ z, z = (xh % 18446744073709551616 + yh % 18446744073709551616 + cc) / 18446744073709551616 := ⟨_, rfl⟩
  obtain ⟨su, hsu⟩ : ∃ z, z = (xh % 18446744073709551616 + yh % 18446744073709551616 + cc) % 18446744073709551616 := ⟨_, rfl⟩
  rw [← hsu, ← hc2] at A2
  have w1 : IntKind.u64.wrap xh = xh % 18446744073709551616 := u64_wrap _
  have w2 : IntKind.u64.wrap yh = yh % 18446744073709551616 := u64_wrap _
  have w3 : IntKind.i64.wrap su = sh := by rw [IntKind.wrap_i64]; omega
  have hsgn : (¬ (xh < 0) ∧ ¬ (yh < 0) ∧ ¬ (sh < 0)) ∨ (xh < 0 ∧ yh < 0 ∧ sh < 0) ∨ (xh < 0 ∧ ¬ (yh < 0)) ∨ (¬ (xh < 0) ∧ yh < 0) := by omega
  unfold i128
  rw [← hxh, ← hxl, ← hyh, ← hyl, ← hsh, ← hsl]
  clear hxh hxl hyh hyl hsh hsl f4 f5 hcc hc2 hsu h1 h2 h3 h4 f1 f2 f3
  rcases hsgn with ⟨g1, g2, g3⟩ | ⟨g1, g2, g3⟩ | ⟨g1, g2⟩ | ⟨g1, g2⟩
  all_goals
    go_enter Tryz.func191, Tryz.ntmps191
    go_wp2
    exact bodyPost_ret (v := .tuple #[.agg #[.int .i64 sh, .int .u64 sl], .int .i64 0]) (by simp [results, Tryz.results191, go_sem]) rfl ⟨rfl, ((((Below.refl _ _).alloc (Nat.le_refl _) _).alloc (by simp) _).alloc (by simp; omega) _).alloc (by simp; omega) _⟩
theorem i128_zero : i128 0 = .agg #[.int .i64 0, .int .u64 0] := rfl
def sgI (z : Int) : Int := if z < 0 then -1 else if z = 0 then 0 else 1
theorem sign_any (z : Int) (w : World) (hz : small z) :
    Calls Tryz.prog 186 #[i128 z] w fun e w' => e = .returned (.int .i64 (sgI z)) ∧ Below w.heap.size w w' := by
  unfold small at hz
  obtain ⟨h1, h2⟩ := hz
  have h3 : (z < 0 ∧ z / 18446744073709551616 < 0 ∧ sgI z = -1) ∨ (z = 0 ∧ sgI z = 0) ∨ (0 < z ∧ 0 ≤ z / 18446744073709551616 ∧ (z / 18446744073709551616 ≠ 0 ∨ z / 18446744073709551616 = 0 ∧ z % 18446744073709551616 ≠ 0) ∧ sgI z = 1) := by
    unfold sgI
    by_cases a : z < 0
    · left; exact ⟨a, by omega, if_pos a⟩
    · by_cases b : z = 0
      · right; left; exact ⟨b, by rw [if_neg a, if_pos b]⟩
      · right; right; exact ⟨by omega, by omega, by omega, by rw [if_neg a, if_neg b]⟩
  rcases h3 with ⟨a, b, e⟩ | ⟨rfl, e⟩ | ⟨a, b, c | ⟨c, d⟩, e⟩
  · rw [e]
    unfold i128
    generalize z / 18446744073709551616 = zh at *
    generalize z % 18446744073709551616 = zl at *
    clear a h1 h2 e
    go_enter Tryz.func186, Tryz.ntmps186
    go_wp2
    go_ret
    exact ⟨rfl, (Below.refl _ _).alloc (Nat.le_refl _) _⟩
  · rw [e, i128_zero]
    clear e
    go_enter Tryz.func186, Tryz.ntmps186
    go_wp2
    go_ret
    exact ⟨rfl, (Below.refl _ _).alloc (Nat.le_refl _) _⟩
  · rw [e]
    unfold i128
    generalize z / 18446744073709551616 = zh at *
    generalize z % 18446744073709551616 = zl at *
    have g1 : (zh == 0) = false := by simpa using c
    clear a h1 h2 e c
    go_enter Tryz.func186, Tryz.ntmps186
    go_wp2
    go_ret
    exact ⟨rfl, (Below.refl _ _).alloc (Nat.le_refl _) _⟩
  · rw [e]
    unfold i128
    generalize z / 18446744073709551616 = zh at *
    generalize z % 18446744073709551616 = zl at *
    have g1 : (zl == 0) = false := by simpa using d
    subst c
    clear a h1 h2 e d b
    go_enter Tryz.func186, Tryz.ntmps186
    go_wp2
    go_ret
    exact ⟨rfl, (Below.refl _ _).alloc (Nat.le_refl _) _⟩
end Go.Proofs.YtgkcenhopmjmlaaGreat
namespace Go.Proofs.YtgkcenhopmjmlaaGreat
open Go.RowKit
/-- A row of whole numbers, as its cells. -/
def wideV (l : List Int) : List Value := l.flatMap fun z => [.int .i64 (z / 18446744073709551616), .int .u64 (z % 18446744073709551616)]
theorem wideV_length (l : List Int) : (wideV l).length = l.length * 2 := by
  induction l with
  | nil => rfl
  | cons p l ih => rw [wideV, List.flatMap_cons, List.length_append]; rw [wideV] at ih; rw [ih]; simp; omega
theorem wideV_append (a b : List Int) : wideV (a ++ b) = wideV a ++ wideV b := by simp [wideV]
theorem wideV_one (l : List Int) : ∀ u ∈ wideV l, u.oneCell' = true := by
  intro u hu
  simp only [wideV, List.mem_flatMap] at hu
  obtain ⟨p, _, hp⟩ := hu
  simp at hp
  rcases hp with rfl | rfl <;> rfl
theorem wideV_get (l : List Int) (k : Nat) (h : k < l.length) : (wideV l)[k * 2]? = some (.int .i64 (l[k] / 18446744073709551616)) ∧ (wideV l)[k * 2 + 1]? = some (.int .u64 (l[k] % 18446744073709551616)) := by
  induction l generalizing k with
  | nil => simp at h
  | cons p l ih =>
    rcases k with _ | k
    · exact ⟨rfl, rfl⟩
    · have := ih k (by simpa using h)
      rw [wideV, List.flatMap_cons]
      rw [wideV] at this
      rw [Nat.succ_mul, Nat.add_right_comm]
      exact this
theorem Reads.wide {w : World} {B n : Nat} {A : Option Addr} {l : List Int} (h : Reads w B 2 A n (wideV l)) {k : Nat} (hk : k < n) :
    ∃ ad, A = some ad ∧ ad.block < B ∧ ∃ hk' : k < l.length, w.cell? (ad.add (k * 2)) = some (.int .i64 ((l[k]'hk') / 18446744073709551616)) ∧ w.cell? ⟨(ad.add (k * 2)).block, (ad.add (k * 2)).off + 1, none⟩ = some (.int .u64 ((l[k]'hk') % 18446744073709551616)) := by
  obtain ⟨ad, e, hb, hc⟩ := h.2 (by omega)
  have hk' : k < l.length := by have := h.1; rw [wideV_length] at this; omega
  exact ⟨ad, e, hb, hk', hc _ _ (wideV_get l k hk').1, by rw [add_next]; exact hc _ _ (wideV_get l k hk').2⟩
/-- A block that is just a whole number. -/
def WdB (w : World) (g : Nat) (z : Int) : Prop := Blk w g 41 #[.int .i64 (z / 18446744073709551616), .int .u64 (z % 18446744073709551616)]
section
variable {w w' : World} {g : Nat} {z : Int}
theorem WdB.facts (h : WdB w g z) : w.cell? ⟨g, 0, none⟩ = some (.int .i64 (z / 18446744073709551616)) ∧ w.cell? ⟨g, 1, none⟩ = some (.int .u64 (z % 18446744073709551616)) ∧ w.frozen? ⟨g, 0, none⟩ = false ∧ w.frozen? ⟨g, 1, none⟩ = false ∧ g < w.heap.size :=
  ⟨by rw [Blk.cell h 0]; rfl, by rw [Blk.cell h 1]; rfl, Blk.frozen h 0, Blk.frozen h 1, Blk.lt h⟩
theorem WdB.on (h : WdB w g z) (hb : Below w.heap.size w w') : WdB w' g z := Blk.below h hb (Blk.lt h)
theorem WdB.alloc (h : WdB w g z) (o : Obj) : WdB (w.alloc o) g z := Blk.alloc h o
theorem WdB.put (h : WdB w g z) (y : Int) : WdB ((w.setCell ⟨g, 0, none⟩ (.int .i64 (y / 18446744073709551616))).setCell ⟨g, 1, none⟩ (.int .u64 (y % 18446744073709551616))) g y :=
  Blk.set_ (Blk.set_ h 0 _) 1 _
end
def sumL (l : List Int) : Int := l.foldl (· + ·) 0
theorem sumL_take (l : List Int) (k : Nat) (h : k < l.length) : sumL (l.take (k + 1)) = sumL (l.take k) + l[k] := by
  unfold sumL
  rw [List.take_succ_eq_append_getElem h, List.foldl_append]
  rfl
theorem sumL_bd (l : List Int) (h : ∀ z ∈ l, -1180591620717411303424 ≤ z ∧ z ≤ 1180591620717411303424) (k : Nat) (hk : k ≤ l.length) : -(1180591620717411303424 * (k : Int)) ≤ sumL (l.take k) ∧ sumL (l.take k) ≤ 1180591620717411303424 * (k : Int) := by
  induction k with
  | zero => simp [sumL]
  | succ k ih =>
    rw [sumL_take l k (by omega)]
    have h1 := ih (by omega)
    have h2 := h _ (List.getElem_mem (by omega : k < l.length))
    omega
set_option maxHeartbeats 800000 in
theorem total_any (zs : List Int) (A : Option Addr) (n cap : Nat) (w : World) (hr : Reads w w.heap.size 2 A n (wideV zs)) (hn : n ≤ 1000000) (hz : ∀ z ∈ zs, -1180591620717411303424 ≤ z ∧ z ≤ 1180591620717411303424) :
    Calls Tryz.prog 156 #[.slice A n cap] w fun e w' => e = .returned (.tuple #[i128 (sumL zs), .int .i64 0]) ∧ Below w.heap.size w w' := by
  have hl : zs.length = n := by have := hr.1; rw [wideV_length] at this; omega
  have HL := Lib.hid hl
  have HZ := Lib.hid hz
  clear hl hz
  go_enter Tryz.func156, Tryz.ntmps156
  go_wp2
  generalize hW0 : w.alloc (.cells #[.int .i64 0, .int .u64 0] 41) = w0
  have hg0 : WdB w0 w.heap.size 0 := by rw [← hW0]; exact Blk.new w _ _
  have hB0 : Below w.heap.size w w0 := by rw [← hW0]; exact (Below.refl _ _).alloc (Nat.le_refl _) _
  clear hW0
  go_loopw [3, 8] (fun e i wr => ∃ k : Nat, k ≤ n ∧ e = .int .i64 0 ∧ i = .int .i64 (k : Int) ∧ WdB wr w.heap.size (sumL (zs.take k)) ∧ Below w.heap.size w wr) (fun _ i _ => n - (intOf i).toNat)
  case atStart => exact ⟨0, Nat.zero_le _, rfl, rfl, hg0, hB0⟩
  case round =>
    clear hg0 hB0
    obtain ⟨k, hk, rfl, rfl, hg, hbel⟩ := hrel
    by_cases hlt : k < n
    · obtain ⟨ad, rfl, hb, hkl, hcx, hcy⟩ := (hr.below hbel).wide hlt
      have hz := HZ.out _ (List.getElem_mem hkl)
      have hs1 := sumL_bd zs HZ.out k (by omega)
      have hsum := sumL_take zs k hkl
      obtain ⟨z, hzz⟩ : ∃ z, z = zs[k] := ⟨_, rfl⟩
      obtain ⟨s, hss⟩ : ∃ s, s = sumL (zs.take k) := ⟨_, rfl⟩
      rw [← hzz] at hcx hcy hz hsum
      rw [← hss] at hg hs1 hsum
      have HS := Lib.hid (And.intro hsum (And.intro hs1 hz))
      clear hzz hss hsum hs1 hz
      have hg1 := hg.alloc (.cells #[.int .i64 (z / 18446744073709551616), .int .u64 (z % 18446744073709551616)] 41)
      have hb1 := hbel.alloc hbel.size (.cells #[.int .i64 (z / 18446744073709551616), .int .u64 (z % 18446744073709551616)] 41)
      obtain ⟨s1, s2, s3, s4, s5⟩ := hg1.facts
      go_wp2_with fail
      refine (add_any s z _ ?_ ?_).mono ?_
      · have := HS.out; unfold small; omega
      · have := HS.out; unfold small; omega
      rintro e w2 ⟨rfl, hb2⟩
      replace hg := hg1.on hb2
      replace hbel := below_on hb1 (Nat.le_refl _) hb2
      rw [← HS.out.1]
      clear hb2 hg1 hb1 s1 s2 s3 s4 s5 hcx hcy
      obtain ⟨s1, s2, s3, s4, s5⟩ := hg.facts
      unfold i128
      go_wp2
      go_roundw
      case rel => exact ⟨k + 1, by omega, rfl, by go_num, hg.put _, (hbel.setCell (p := ⟨w.heap.size, 0, none⟩) (Nat.le_refl _) _).setCell (p := ⟨w.heap.size, 1, none⟩) (Nat.le_refl _) _⟩
      case measure => simp [intOf]; omega
    · have hkn : k = n := by omega
      subst hkn
      obtain ⟨s, hss⟩ : ∃ s, s = sumL zs := ⟨_, rfl⟩
      have e : sumL (zs.take k) = s := by rw [hss, List.take_of_length_le (by have := HL.out; omega)]
      rw [e] at hg
      have HSS := Lib.hid hss
      clear e hss
      have hgp := hg.put s
      obtain ⟨s1, s2, s3, s4, s5⟩ := hg.facts
      obtain ⟨p1, p2, p3, p4, p5⟩ := hgp.facts
      clear hg hgp
      go_wp2
      exact bodyPost_ret (v := .tuple #[.agg #[.int .i64 (s / 18446744073709551616), .int .u64 (s % 18446744073709551616)], .int .i64 0]) (by simp [results, Tryz.results156, go_sem, p1, p2]) rfl ⟨by rw [← HSS.out]; rfl, (hbel.setCell (p := ⟨w.heap.size, 0, none⟩) (Nat.le_refl _) _).setCell (p := ⟨w.heap.size, 1, none⟩) (Nat.le_refl _) _⟩
end Go.Proofs.YtgkcenhopmjmlaaGreat

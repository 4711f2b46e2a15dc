/- slices.Clone, slices.Reverse at a ring, and ring.Turned. -/
import Derived.Shelf.SlicesQ.Reverse
import Derived.Lib.SliceRun
import Derived.Test.YtmegmokjjlelgaaGreatK06
namespace Go.Proofs.YtmegmokjjlelgaaGreat
open Go.RowKit Go.Shelf Go.Sort
def revPt_ren : Go.Shelf.Ren := ⟨fun | 35 => 113 | n => n, fun | 0 => 0 | 3 => 3 | 4 => 4 | 22 => 23 | 23 => 44 | n => n, fun | n => n⟩
theorem revPt : Go.Proofs.SlLaysE0.n35 Tryz.prog revPt_ren := {
  mixed := by kernel_rfl
  f35 := ⟨Tryz.f113.name, by decide, Tryz.func113.trans (congrArg some (by kernel_rfl))⟩
  t0 := Tryz.underlying0
  a0 := Tryz.isAgg0
  z0 := Tryz.sizeOf0
  v0 := Tryz.zeroValue0
  t3 := Tryz.underlying3
  a3 := Tryz.isAgg3
  z3 := Tryz.sizeOf3
  v3 := Tryz.zeroValue3
  t4 := Tryz.underlying4
  a4 := Tryz.isAgg4
  z4 := Tryz.sizeOf4
  v4 := Tryz.zeroValue4
  t22 := Tryz.underlying23
  a22 := Tryz.isAgg23
  z22 := Tryz.sizeOf23
  v22 := Tryz.zeroValue23
}
theorem cloneT_any (xs : List Pt) (A : Option Addr) (n cap : Nat) (w : World) (hr : Reads w w.heap.size 2 A n (ptsV xs)) (hn : n ≤ 8796093022208) :
    Calls Tryz.prog 112 #[.slice A n cap] w fun e w' => ∃ A' c, e = .returned (.slice A' n c) ∧ w'.ownsRow w.heap.size 44 2 (.slice A' n c) n (ptsV xs) ∧ Below w.heap.size w w' := by
  obtain ⟨i0, hi0, hz0, hz1, hz2⟩ := info_parts info_pt
  have hl : xs.length = n := hr.lenPt
  rcases A with _ | a
  · have h0 : n = 0 := by
      rcases Nat.eq_zero_or_pos n with h0 | h0
      · exact h0
      · obtain ⟨ad, h, _⟩ := hr.2 h0; cases h
    subst h0
    obtain rfl := List.eq_nil_of_length_eq_zero hl
    have heq := fun (W : World) => Lib.run_eql_slice_nil (P := Tryz.prog) W 23 44 none 0 cap 0 0 Tryz.underlying23
    clear hr
    go_enter Tryz.func112, Tryz.ntmps112
    go_wp2_with fail
    go_ret
    exact ⟨none, 0, rfl, World.ownsRow_nil _ _ _ _, Below.refl _ _⟩
  · have heq := fun (W : World) => Lib.run_eql_slice_nil (P := Tryz.prog) W 23 44 (some a) n cap 0 0 Tryz.underlying23
    have hown0 := World.ownsRow_made (base := w.heap.size) (e := 44) (size := 2) w #[] 0 (Nat.le_refl _) (by simp [maxLen]) rfl
    have hb0 : Below w.heap.size w (w.alloc (.cells #[] 44)) := (Below.refl _ _).alloc (Nat.le_refl _) _
    have hrd := hr.below hb0
    clear hr
    go_enter Tryz.func112, Tryz.ntmps112
    go_wp2_with (at_builtin; refine wpList_append_any _ rfl (.tmp 5) (.tmp 6) _ rfl w.heap.size 44 i0 _ 2 16 Tryz.underlying23 hi0 hz0 hz1 hz2 rfl (by omega) (.slice (some ⟨w.heap.size, 0, none⟩) 0 0) 0 [] rfl hown0 w.heap.size (some a) n cap (ptsV xs) rfl hrd (ptsV_one xs) (by simp only [maxLen]; omega) (by omega) (by simp) ?_
                 intro v2 w2 hown2 hg2 hat2)
    go_ret
    rw [Nat.zero_add, List.nil_append] at hown2
    have hb2 : Below w.heap.size w w2 := hb0.grown hg2 hb0.size (by intro k hk; simp [Value.ownBlock] at hk; omega)
    obtain ⟨A2, c2, rfl⟩ := own_form hown2
    exact ⟨_, _, rfl, hown2, hb2⟩
theorem revPt_any (d : List Pt) (A : Option Addr) (n cap base : Nat) (w : World) (hown : w.ownsRow base 44 2 (.slice A n cap) n (ptsV d)) (hn : n ≤ 8796093022208) :
    Calls Tryz.prog 113 #[.slice A n cap] w fun e w' => e = .returned (.tuple #[]) ∧ Reads w' w'.heap.size 2 A n (ptsV d.reverse) ∧ ∀ b, b ≤ base → b ≤ w.heap.size → Below b w w' := by
  have hl : d.length = n := by have h := hown.1; rw [ptsV_length] at h; omega
  rcases hown.2 with ⟨hA, h0⟩ | ⟨g, c, cur, hA, hbase, -⟩
  · subst h0
    injection hA with hA
    subst hA
    obtain rfl := List.eq_nil_of_length_eq_zero hl
    refine (AnyQ.slices_Reverse_empty revPt none cap w).mono ?_
    rintro e w' ⟨rfl, rfl⟩
    exact ⟨rfl, Reads.of_own hown, fun b _ _ => Below.refl _ _⟩
  · injection hA with hA
    subst hA
    have hg : g < w.heap.size := (hown.lt g rfl).2
    have hH := holdsK_own hown
    have hcon := AnyQ.slices_Reverse revPt 2 Tryz.isAgg44 Tryz.sizeOf44 encPt (fun _ => rfl) (fun x v hv => by simp [encPt] at hv; rcases hv with rfl | rfl <;> rfl) g 0 cap d.toArray w hH (by simp; omega)
    change Calls Tryz.prog 113 _ _ _ at hcon
    rw [List.size_toArray, hl] at hcon
    refine hcon.mono ?_
    rintro e w' ⟨rfl, m, rfl⟩
    have hHm : HoldsK encPt 2 (Sort.ahead w m) g 0 d.toArray := holdsK_ahead encPt 2 w m g 0 d.toArray hH
    have hH' := holdsK_putRowK (enc := encPt) (k := 2) (Sort.ahead w m) g 0 d.toArray d.toArray.reverse hHm (by simp)
    have hsz : (putRowK encPt 2 (Sort.ahead w m) g 0 d.toArray.reverse).heap.size = w.heap.size := by simp [putRowK, putRow, mapBlock, Sort.ahead]
    refine ⟨rfl, ?_, ?_⟩
    · rw [show n = d.reverse.length by simp; omega]
      exact reads_holdsK (by rw [hsz]; exact hg) (by simpa using hH')
    · intro b hb1 hb2
      have hgr : w.grownBy (putRowK encPt 2 (Sort.ahead w m) g 0 d.toArray.reverse) (some g) := by
        refine ⟨rfl, rfl, rfl, by rw [hsz]; exact Nat.le_refl _, fun k hk hne => ?_⟩
        have : g ≠ k := fun e => hne (by rw [e])
        simp [putRowK, putRow, mapBlock, Sort.ahead, Array.getElem?_modify, this]
      exact (Below.refl _ _).grown hgr hb2 (fun k e => by cases e; omega)
theorem turned_any (xs : List Pt) (A : Option Addr) (n cap : Nat) (w : World) (hr : Reads w w.heap.size 2 A n (ptsV xs)) (hn : n ≤ 8796093022208) :
    Calls Tryz.prog 64 #[.slice A n cap] w fun e w' => ∃ A' c, e = .returned (.slice A' n c) ∧ Reads w' w'.heap.size 2 A' n (ptsV xs.reverse) ∧ Below w.heap.size w w' := by
  have HK := Lib.hid (cloneT_any xs A n cap w hr hn)
  clear hr
  go_enter Tryz.func64, Tryz.ntmps64
  go_wp2_with fail
  refine HK.out.mono ?_
  rintro e w1 ⟨A1, c1, rfl, ho, hb⟩
  have HB := Lib.hid hb
  have HR := Lib.hid (revPt_any xs A1 n c1 w.heap.size w1 ho hn)
  clear ho hb HK
  go_wp2_with fail
  refine HR.out.mono ?_
  rintro e w2 ⟨rfl, hrd, hb2⟩
  have HD := Lib.hid (And.intro hrd (HB.out.trans (hb2 _ (Nat.le_refl _) HB.out.size)))
  clear hrd hb2 HB HR
  go_wp2_with fail
  go_ret
  exact ⟨A1, c1, rfl, HD.out⟩
end Go.Proofs.YtmegmokjjlelgaaGreat

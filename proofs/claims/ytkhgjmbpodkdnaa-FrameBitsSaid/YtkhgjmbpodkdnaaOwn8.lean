/- merestonelaw13.own: the walk: bytes of their own. -/
import Derived.Test.YtkhgjmbpodkdnaaBase
import Derived.Test.YtkhgjmbpodkdnaaRows
import Derived.Test.YtkhgjmbpodkdnaaSum
namespace Go.Proofs.Ytkhgjmbpodkdnaa
open Go.RowKit
theorem info_u8 : (Try.prog.info? 5).map (fun i => (i.zero, i.size, i.bytes)) = some (some (.int .u8 0), 1, 1) := by kernel_rfl
theorem u8s_one (l : List UInt8) : ∀ u ∈ u8s l, u.oneCell' = true := by
  intro u hu
  simp only [u8s, List.mem_map] at hu
  obtain ⟨b, _, rfl⟩ := hu
  rfl
/-- A slice of bytes of the call's own: its value, that it is new, that older memory is as it was. -/
def Own8 (xs : List UInt8) (w : World) (e : Ending) (w' : World) : Prop :=
  ∃ A c, e = .returned (.slice A xs.length c) ∧ w'.ownsRow w.heap.size 5 1 (.slice A xs.length c) xs.length (u8s xs) ∧ Below w.heap.size w w'

set_option maxHeartbeats 400000 in
theorem own8_any (xs : List UInt8) (A : Option Addr) (n cap : Nat) (w : World) (hr : Reads w w.heap.size 1 A n (u8s xs)) (hn : n ≤ 140737488351232) :
    Calls Try.prog 13 #[.slice A n cap] w (Own8 xs w) := by
  obtain ⟨i0, hi0, hz0, hz1, hz2⟩ := info_parts info_u8
  have hl := hr.len8
  go_enter Try.func13, Try.ntmps13
  go_wp2_with (first
    | (at_make; refine wpList_make_own _ rfl _ _ 22 rfl w.heap.size 5 i0 (.int .u8 0) 1 Try.underlying22 hi0 hz0 hz1 _ _ _ (n + 9) rfl rfl (by go_num) (by rw [hz2]; omega) (by simp only [maxLen]; omega) (Nat.le_refl _) ?_
       intro w1 hown1 hg1
       have hb1 : Below w.heap.size w w1 := (Below.refl _ _).grown hg1 (Nat.le_refl _) (by simp))
    | (at_builtin; refine wpList_append_any _ rfl (.tmp 6) (.tmp 7) _ rfl w.heap.size 5 i0 _ 1 1 Try.underlying22 hi0 hz0 hz1 hz2 rfl (by omega) (.slice (some ⟨w.heap.size, 0, none⟩) 0 (n + 9)) 0 [] rfl hown1 w.heap.size A n cap (u8s xs) rfl (hr.below hb1) (u8s_one xs) (by simp only [maxLen]; omega) (by omega) hb1.size ?_
       intro v2 w2 hown2 hg2 hat2))
  go_ret
  rw [Nat.zero_add, List.nil_append] at hown2
  rw [← hl] at hown2
  have hb2 : Below w.heap.size w w2 := hb1.grown hg2 hb1.size (by intro k hk; simp [Value.ownBlock] at hk; omega)
  rcases hown2.2 with ⟨rfl, h0⟩ | ⟨g, c, cur, rfl, _⟩
  · exact ⟨none, 0, by rw [h0]; rfl, by rw [h0] at hown2 ⊢; exact hown2, hb2⟩
  · exact ⟨_, c, rfl, hown2, hb2⟩
end Go.Proofs.Ytkhgjmbpodkdnaa

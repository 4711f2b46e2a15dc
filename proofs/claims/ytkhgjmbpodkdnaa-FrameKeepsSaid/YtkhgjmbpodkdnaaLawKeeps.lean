/- FrameKeeps: the walk: true, and older memory is as it was. -/
import Derived.Test.YtkhgjmbpodkdnaaAns13
import Derived.Test.YtkhgjmbpodkdnaaSealR
import Derived.Test.YtkhgjmbpodkdnaaStr
namespace Go.Proofs.Ytkhgjmbpodkdnaa
open Go.RowKit
theorem Reads.front {w : World} {B n m : Nat} {A : Option Addr} {l1 l2 : List Value} (h : Reads w B 1 A (n + m) (l1 ++ l2)) (hl : l1.length = n) : Reads w B 1 A n l1 := by
  refine ⟨by omega, fun hn => ?_⟩
  obtain ⟨ad, e, hb, hc⟩ := h.2 (by omega)
  exact ⟨ad, e, hb, fun j u hu => hc j u (by rw [List.getElem?_append_left (List.getElem?_eq_some_iff.1 hu).1]; exact hu)⟩
/-- While a row of the call's own is written, of whatever length, another one stays, and so does all that is elder. -/
def FillRel (base2 base3 n1 n2 : Nat) (v1 v2 : Value) (ys : List Value) (w : World) (i : Value) (wr : World) : Prop :=
  ∃ (k : Nat) (zs : List Value), k ≤ n1 ∧ i = .int .i64 (k : Int) ∧ wr.ownsRow base2 5 1 v1 n1 zs ∧ wr.ownsRow base3 5 1 v2 n2 ys ∧ Below base2 w wr
theorem FillRel.step {base2 base3 n1 n2 g c k : Nat} {v2 : Value} {ys zs : List Value} {w wr : World} {x : Value} (hk : k < n1) (h1 : wr.ownsRow base2 5 1 (.slice (some ⟨g, 0, none⟩) n1 c) n1 zs)
    (h2 : wr.ownsRow base3 5 1 v2 n2 ys) (hb : Below base2 w wr) (hne : v2.ownBlock ≠ some g) : FillRel base2 base3 n1 n2 (.slice (some ⟨g, 0, none⟩) n1 c) v2 ys w (.int .i64 ((k : Int) + 1)) (wr.setCell ⟨g, k, none⟩ x) := by
  have hs := h1.stored k x
  refine ⟨k + 1, _, hk, by go_num, hs.1, h2.kept hs.2 (.inr hne), hb.setCell ?_ x⟩
  exact (h1.lt g rfl).1
set_option maxRecDepth 100000 in
set_option maxHeartbeats 1600000 in
theorem keeps_any (xs : List UInt8) (A : Option Addr) (n cap : Nat) (kind v : Int) (w : World) (hr : Reads w w.heap.size 1 A n (u8s xs)) (hn : n ≤ 140737488351232) (hv : v ≤ 9223372036854775807) :
    Calls Try.prog 5 #[.int .i64 kind, .slice A n cap, .int .i64 v] w fun e w' => e = .returned (.bool true) ∧ Below w.heap.size w w' := by
  obtain ⟨i0, hi0, hz0, hz1, hz2⟩ := info_parts info_u8
  have hl := hr.len8
  obtain rfl : n = xs.length := hl.symm
  clear hl
  go_enter Try.func5, Try.ntmps5
  go_wp2_with fail
  refine (own8_any xs _ _ _ _ hr (by omega)).mono ?_
  rintro e w1 ⟨A1, c1, rfl, ho1, hb1⟩
  have hr1 := hr.on hb1
  go_wp2_with (at_builtin; refine wpList_append_any _ rfl (.tmp 19) (.tmp 20) _ rfl w.heap.size 5 i0 _ 1 1 Try.underlying22 hi0 hz0 hz1 hz2 rfl (by omega) (.slice A1 xs.length c1) xs.length _ rfl (ho1.alloc _) (w1.heap.size + 1) (some ⟨w1.heap.size, 0, none⟩) 1 1 _ rfl (new_byte w1 71) (by simp [Value.oneCell']) (by simp only [maxLen]; omega) (by omega) (by simp; have := hb1.size; omega) ?_
               intro v2 w2 hown2 hg2 hat2
               obtain ⟨A2, c2, rfl⟩ := own_form hown2
               obtain ⟨g2, rfl, hg2b, hg2l⟩ := own_some hown2 (by omega)
               have hcap2 := own_cap hown2)
  have hB2 : Below w.heap.size w w2 := (hb1.alloc hb1.size _).grown hg2 (by simp; have := hb1.size; omega) (fun k hk => (ho1.lt k hk).1)
  have hi2 := Reads.of_own hown2
  have hp2 := hi2.front (u8s_length xs)
  have h71 : w2.cell? ⟨g2, xs.length, none⟩ = some (.int .u8 71) := by
    rw [hown2.cellAt xs.length (by omega), List.getElem?_append_right (by rw [u8s_length]; omega), u8s_length, Nat.sub_self]
    rfl
  have hr2 := hr.on hB2
  clear hown2 hg2 hat2 ho1 hr1 hi2
  refine (putNum_any xs _ _ _ v 2 _ hp2 (by omega) hv).mono ?_
  rintro e w3 ⟨A3, c3, rfl, ho3, hb3⟩
  have hp3 := hp2.on hb3
  go_wp2_with fail
  refine (seal_any xs _ _ _ kind _ hp3).mono ?_
  rintro e w4 ⟨A4, c4, rfl, ho4, hb4⟩
  obtain ⟨na, hna⟩ : ∃ na, na = (putN xs v 2).length := ⟨_, rfl⟩
  obtain ⟨nb, hnb⟩ : ∃ nb, nb = (sealL kind xs).length := ⟨_, rfl⟩
  have hnam : na ≤ 9223372036854775807 := by rw [hna]; have := own_cap ho3; omega
  have hnbm : nb ≤ 9223372036854775807 := by rw [hnb]; have := own_cap ho4; omega
  rw [← hnb] at ho4 ⊢
  rw [← hna] at ho3 ⊢
  have hB4 : Below w2.heap.size w2 w4 := below_on hb3 (Nat.le_refl _) hb4
  have ho3' : w4.ownsRow w2.heap.size 5 1 (.slice A3 na c3) na (u8s (putN xs v 2)) := by
    refine ⟨ho3.1, ?_⟩
    rcases ho3.2 with h0 | ⟨g, cc, cur, h1, h2, h3, h4⟩
    · exact .inl h0
    · exact .inr ⟨g, cc, cur, h1, h2, (hb4.block g (Array.getElem?_eq_some_iff.1 h3).1).trans h3, h4⟩
  have hne : ∀ g, (Value.slice A3 na c3).ownBlock = some g → (Value.slice A4 nb c4).ownBlock ≠ some g := fun g h1 h2 => by
    have := (ho3.lt g h1).2
    have := (ho4.lt g h2).1
    omega
  have hs23 := hb3.size
  have H1 := Lib.hid (show FillRel w2.heap.size w3.heap.size na nb (.slice A3 na c3) (.slice A4 nb c4) (u8s (sealL kind xs)) w2 (.int .i64 0) w4 from ⟨0, _, Nat.zero_le _, rfl, ho3', ho4, hB4⟩)
  have HNB := Lib.hid hnb
  have HNE := Lib.hid hne
  clear hna hnb hne ho3 ho4 ho3' hB4 hb3 hb4 hp3
  go_wp2_with fail
  go_loopw [12] (FillRel w2.heap.size w3.heap.size na nb (.slice A3 na c3) (.slice A4 nb c4) (u8s (sealL kind xs)) w2) (fun i _ => na - (intOf i).toNat)
  case atStart => exact H1.out
  case round =>
    obtain ⟨k, zs, hk, rfl, hoa, hob, hbel⟩ := hrel
    by_cases hlt : k < na
    · obtain ⟨ga, rfl, hga, hgal⟩ := own_some hoa (by omega)
      have hst := Lib.hid (FillRel.step (x := .int .u8 99) hlt hoa hob hbel (HNE.out ga rfl))
      have hfr := hoa.frozenAt k
      obtain ⟨u, hcell⟩ : ∃ u, wr.cell? ⟨ga, k, none⟩ = some u := by
        rw [hoa.cellAt k (by omega)]
        exact ⟨_, List.getElem?_eq_getElem (by have := hoa.1; omega)⟩
      clear hoa hob hbel
      go_wp2_with fail
      go_roundw
      case rel => exact hst.out
      case measure => simp [intOf]; omega
    · clear hoa H1
      have hne2 : ∀ g, (Value.slice A4 nb c4).ownBlock = some g → (Value.slice none 0 0).ownBlock ≠ some g := fun g _ => by simp [Value.ownBlock]
      have H2 := Lib.hid (show FillRel w2.heap.size 0 nb 0 (.slice A4 nb c4) (.slice none 0 0) [] w2 (.int .i64 0) wr from ⟨0, _, Nat.zero_le _, rfl, own_mono hob hs23, World.ownsRow_nil _ _ _ _, hbel⟩)
      go_wp2_with fail
      obtain ⟨wo, rfl⟩ : ∃ wo : World, wo = wr := ⟨_, rfl⟩
      clear hob hbel
      go_loopw [13] (FillRel w2.heap.size 0 nb 0 (.slice A4 nb c4) (.slice none 0 0) [] w2) (fun i _ => nb - (intOf i).toNat)
      case atStart => exact H2.out
      case round =>
        obtain ⟨k2, zs2, hk2, rfl, hoa, hob, hbel⟩ := hrel
        by_cases hlt2 : k2 < nb
        · obtain ⟨gb, rfl, hgb, hgbl⟩ := own_some hoa (by omega)
          have hst := Lib.hid (FillRel.step (x := .int .u8 98) hlt2 hoa hob hbel (hne2 gb rfl))
          have hfr := hoa.frozenAt k2
          obtain ⟨u, hcell⟩ : ∃ u, wr.cell? ⟨gb, k2, none⟩ = some u := by
            rw [hoa.cellAt k2 (by omega)]
            exact ⟨_, List.getElem?_eq_getElem (by have := hoa.1; omega)⟩
          clear hoa hob hbel
          go_wp2_with fail
          go_roundw
          case rel => exact hst.out
          case measure => simp [intOf]; omega
        · clear hoa H2 hob hne2 HNE
          go_wp2_with fail
          refine (ans13_any _).mono ?_
          rintro e w7 ⟨rfl, hb7⟩
          have hB7 := below_on hbel (Nat.le_refl _) hb7
          have hp7 := hp2.on hB7
          have hr7 := hr2.on hB7
          have h71' := (hB7.cell (p := ⟨g2, xs.length, none⟩) hg2l).trans h71
          have sp := run_str (c := c2) hp7
          have sr := run_str (c := cap) hr7
          clear hb7 hbel h71
          go_wp2_with fail
          refine (seal_any xs _ _ _ kind _ hp7).mono ?_
          rintro e w8 ⟨A8, c8, rfl, ho8, hb8⟩
          have hr8 := hr7.on hb8
          have hx8 := Reads.of_own ho8
          have hB8 := below_on hB7 (Nat.le_refl _) hb8
          clear ho8
          go_wp2_with fail
          refine (sealR_any xs _ _ _ kind _ hr8).mono ?_
          rintro e w9 ⟨A9, c9, rfl, ho9, hb9⟩
          have sx := run_str (c := c8) (hx8.on hb9)
          have sy := run_str (c := c9) (Reads.of_own ho9)
          have hB9 := below_on hB8 (Nat.le_refl _) hb9
          go_wp2
          go_ret
          exact ⟨rfl, below_on hB2 (Nat.le_refl _) hB9⟩
end Go.Proofs.Ytkhgjmbpodkdnaa

/- merestoneref05.Sorted: insertion sort of parcels in a row of its own. -/
import Derived.Deep.CutBlock
import Derived.Deep.DeepCutAuto
import Derived.Test.YtnpjggcgnbgkjaaGreatK01
import Derived.Test.YtnpjggcgnbgkjaaGreatK04
import Derived.Test.YtnpjggcgnbgkjaaGreatK28
namespace Go.Proofs.YtnpjggcgnbgkjaaGreat
open Go.RowKit Go.Lib
def idsH (L : List PcH) : List Int := L.map (·.1.id)
theorem ids_get {L : List PcH} {i : Nat} {e : PcH} (h : L[i]? = some e) : (idsH L).getD i 0 = e.1.id := by
  unfold idsH
  rw [List.getD_eq_getElem?_getD, List.getElem?_map, h]
  rfl
def swH (L : List PcH) (i j : Nat) (e1 e2 : PcH) : List PcH := (L.set j e1).set i e2
theorem swH_len (L : List PcH) (i j : Nat) (e1 e2 : PcH) : (swH L i j e1 e2).length = L.length := by simp [swH]
theorem ids_sw {L : List PcH} {i j : Nat} {e1 e2 : PcH} (hi : j - 1 = i) (h1 : L[i]? = some e1) (h2 : L[j]? = some e2) : idsH (swH L i j e1 e2) = swI (idsH L) j := by
  unfold swI
  rw [hi, ids_get h1, ids_get h2]
  unfold swH idsH
  rw [List.map_set, List.map_set]
theorem swH_perm {L : List PcH} {i j : Nat} {e1 e2 : PcH} (h1 : L[i]? = some e1) (h2 : L[j]? = some e2) : (swH L i j e1 e2).Perm L := by
  obtain ⟨hi, rfl⟩ := List.getElem?_eq_some_iff.1 h1
  obtain ⟨hj, rfl⟩ := List.getElem?_eq_some_iff.1 h2
  exact List.set_set_perm hj hi
theorem pchV_get {L : List PcH} {k : Nat} {e : PcH} (h : L[k]? = some e) : (pchV L)[k * 3]? = some (.int .i64 e.1.id) ∧ (pchV L)[k * 3 + 1]? = some (.slice e.2.1 e.2.2.1 e.2.2.2) ∧ (pchV L)[k * 3 + 2]? = some (.string e.1.owner) := by
  induction L generalizing k with
  | nil => simp at h
  | cons y L ih =>
    rcases k with _ | k
    · obtain rfl : y = e := by simpa using h
      exact ⟨rfl, rfl, rfl⟩
    · have := ih (k := k) (by simpa using h)
      rw [show (k + 1) * 3 = k * 3 + 2 + 1 by omega]
      exact this
theorem pchV_set {L : List PcH} {k : Nat} (hk : k < L.length) (e : PcH) : pchV (L.set k e) = (((pchV L).set (k * 3) (.int .i64 e.1.id)).set (k * 3 + 1) (.slice e.2.1 e.2.2.1 e.2.2.2)).set (k * 3 + 2) (.string e.1.owner) := by
  induction L generalizing k with
  | nil => simp at hk
  | cons y L ih =>
    rcases k with _ | k
    · rfl
    · have h1 := ih (k := k) (by simpa using hk)
      show .int .i64 y.1.id :: .slice y.2.1 y.2.2.1 y.2.2.2 :: .string y.1.owner :: pchV (L.set k e) = _
      rw [h1, show (k + 1) * 3 = k * 3 + 1 + 1 + 1 by omega]
      rfl
theorem own_put_ph {W : World} {B n c k : Nat} {ad : Addr} {L : List PcH} {e0 : PcH} (h : W.ownsRow B 37 3 (.slice (some ad) n c) n (pchV L)) (hk : k < n) (h0 : L[k]? = some e0) (e : PcH) :
    ((((W.setCell (ad.add (k * 3)) (.int .i64 e.1.id)).setCell ⟨(ad.add (k * 3)).block, (ad.add (k * 3)).off + 1, none⟩ (.slice e.2.1 e.2.2.1 e.2.2.2)).setCell ⟨(ad.add (k * 3)).block, (ad.add (k * 3)).off + 2, none⟩ (.string e.1.owner)).ownsRow B 37 3 (.slice (some ad) n c) n (pchV (L.set k e)) ∧ B ≤ ad.block ∧ ad.block < W.heap.size) ∧ (W.cell? (ad.add (k * 3)) = some (.int .i64 e0.1.id) ∧ W.cell? ⟨(ad.add (k * 3)).block, (ad.add (k * 3)).off + 1, none⟩ = some (.slice e0.2.1 e0.2.2.1 e0.2.2.2) ∧ W.cell? ⟨(ad.add (k * 3)).block, (ad.add (k * 3)).off + 2, none⟩ = some (.string e0.1.owner)) ∧ (W.frozen? (ad.add (k * 3)) = false ∧ W.frozen? ⟨(ad.add (k * 3)).block, (ad.add (k * 3)).off + 1, none⟩ = false ∧ W.frozen? ⟨(ad.add (k * 3)).block, (ad.add (k * 3)).off + 2, none⟩ = false) ∧
    ((W.setCell (ad.add (k * 3)) (.int .i64 e.1.id)).frozen? ⟨(ad.add (k * 3)).block, (ad.add (k * 3)).off + 1, none⟩ = false ∧ (W.setCell (ad.add (k * 3)) (.int .i64 e.1.id)).cell? ⟨(ad.add (k * 3)).block, (ad.add (k * 3)).off + 1, none⟩ = some (.slice e0.2.1 e0.2.2.1 e0.2.2.2)) ∧ ((W.setCell (ad.add (k * 3)) (.int .i64 e.1.id)).setCell ⟨(ad.add (k * 3)).block, (ad.add (k * 3)).off + 1, none⟩ (.slice e.2.1 e.2.2.1 e.2.2.2)).frozen? ⟨(ad.add (k * 3)).block, (ad.add (k * 3)).off + 2, none⟩ = false ∧ ((W.setCell (ad.add (k * 3)) (.int .i64 e.1.id)).setCell ⟨(ad.add (k * 3)).block, (ad.add (k * 3)).off + 1, none⟩ (.slice e.2.1 e.2.2.1 e.2.2.2)).cell? ⟨(ad.add (k * 3)).block, (ad.add (k * 3)).off + 2, none⟩ = some (.string e0.1.owner) := by
  obtain ⟨g, cap, e', hb, hlt⟩ := h.form (by omega)
  have e1 : ad = ⟨g, 0, none⟩ := by cases e'; rfl
  have e2 : cap = c := by cases e'; rfl
  subst e1 e2
  have hl : L.length = n := by have := h.1; rw [pchV_length] at this; omega
  have ha : (⟨g, 0, none⟩ : Addr).add (k * 3) = ⟨g, k * 3, none⟩ := by
    unfold Addr.add
    split
    · rename_i h0; rw [h0]
    · simp
  rw [ha]
  have h1 := (h.stored (k * 3) (.int .i64 e.1.id)).1
  have h2 := (h1.stored (k * 3 + 1) (.slice e.2.1 e.2.2.1 e.2.2.2)).1
  have h3 := (h2.stored (k * 3 + 2) (.string e.1.owner)).1
  rw [← pchV_set (by omega) e] at h3
  have hc := h.cells (g := g) rfl
  obtain ⟨g0, g1, g2⟩ := pchV_get h0
  have c0 := at_g (hc _ _ g0)
  have c1 := at_g (hc _ _ g1)
  have c2 := at_g (hc _ _ g2)
  have ne : ∀ {a b : Nat}, a ≠ b → (⟨g, a, none⟩ : Addr) ≠ ⟨g, b, none⟩ := fun hab e => hab (congrArg Addr.off e)
  refine ⟨⟨h3, hb, hlt⟩, ⟨c0, c1, c2⟩, ⟨h.frozenAt _, h.frozenAt _, h.frozenAt _⟩, ⟨h1.frozenAt _, ?_⟩, h2.frozenAt _, ?_⟩
  · rw [World.cell?_setCell_other _ _ _ _ (fun e => by have := congrArg Addr.off e; simp at this)]
    exact c1
  · rw [World.cell?_setCell_other _ _ _ _ (fun e => by have := congrArg Addr.off e; simp at this), World.cell?_setCell_other _ _ _ _ (fun e => by have := congrArg Addr.off e; simp at this)]
    exact c2
theorem below_put3 {B : Nat} {w V : World} {ad : Addr} {k : Nat} (h : Below B w V) (hB : B ≤ ad.block) (x y z : Value) : Below B w (((V.setCell (ad.add (k * 3)) x).setCell ⟨(ad.add (k * 3)).block, (ad.add (k * 3)).off + 1, none⟩ y).setCell ⟨(ad.add (k * 3)).block, (ad.add (k * 3)).off + 2, none⟩ z) :=
  ((h.setCell (p := ad.add (k * 3)) (by rw [block_of_add]; exact hB) _).setCell (p := ⟨(ad.add (k * 3)).block, (ad.add (k * 3)).off + 1, none⟩) (by simp only [block_of_add]; exact hB) _).setCell (p := ⟨(ad.add (k * 3)).block, (ad.add (k * 3)).off + 2, none⟩) (by simp only [block_of_add]; exact hB) _
def SrtH (w : World) (L0 : List PcH) (A : Option Addr) (N C : Nat) (P : List PcH → Prop) (W : World) : Prop := ∃ L : List PcH, L.Perm L0 ∧ L.length = N ∧ P L ∧ W.ownsRow w.heap.size 37 3 (.slice A N C) N (pchV L) ∧ Below w.heap.size w W
set_option maxRecDepth 100000 in
set_option maxHeartbeats 6400000 in
theorem sortedR_any (d : List PcH) (A : Option Addr) (n c : Nat) (w : World) (hr : Reads w w.heap.size 3 A n (pchV d)) (hn : n ≤ 1048576) :
    Calls Tryz.prog 56 #[.slice A n c] w fun e w' => ∃ A' c' d', e = .returned (.slice A' n c') ∧ d'.Perm d ∧ d'.Pairwise (fun e f => ¬ f.1.id < e.1.id) ∧ w'.ownsRow w.heap.size 37 3 (.slice A' n c') n (pchV d') ∧ Below w.heap.size w w' := by
  have hl : d.length = n := by have := hr.1; rw [pchV_length] at this; omega
  obtain ⟨i1, hi1, hy0, hy1, hy2⟩ := info_parts info_pc
  have hB0 : Below w.heap.size w (w.alloc (.cells #[] 37)) := (Below.refl _ _).alloc (Nat.le_refl _) _
  have hown0 : (w.alloc (.cells #[] 37)).ownsRow w.heap.size 37 3 (.slice (some ⟨w.heap.size, 0, none⟩) 0 0) 0 [] := World.ownsRow_made (base := w.heap.size) (e := 37) (size := 3) w #[] 0 (Nat.le_refl _) (by simp [maxLen]) rfl
  have H0 := Lib.hid (And.intro hown0 (And.intro (hr.on hB0) (And.intro hB0 (And.intro (show 0 + n ≤ maxLen by simp only [maxLen]; omega) (And.intro (show (0 + n) * 48 ≤ 140737488355328 by omega) (show w.heap.size ≤ (w.alloc (.cells #[] 37)).heap.size by simp))))))
  have HN := Lib.hid (And.intro hl hn)
  clear hr hl hn hB0 hown0
  go_enter Tryz.func56, Tryz.ntmps56
  go_wp2_with (at_builtin; refine wpList_append_any _ rfl (.tmp 7) (.tmp 8) _ rfl w.heap.size 37 i1 _ 3 48 Tryz.underlying24 hi1 hy0 hy1 hy2 rfl (Nat.zero_lt_succ _) (.slice (some ⟨w.heap.size, 0, none⟩) 0 0) 0 [] rfl H0.out.1 _ A n c (pchV d) rfl H0.out.2.1 (pchV_one _) H0.out.2.2.2.1 H0.out.2.2.2.2.1 H0.out.2.2.2.2.2 ?_; intro v1 w1 hown1 hg1 hat1; have hB1 := H0.out.2.2.1.grown hg1 H0.out.2.2.2.2.2 (fun g hg => by have := (H0.out.1.lt g hg).1; omega); rw [List.nil_append, Nat.zero_add] at hown1; obtain ⟨Ao, co, rfl⟩ := own_form hown1; have H1 := Lib.hid (show SrtH w d Ao n co (fun L => SrtP (idsH L) 0) w1 from ⟨d, List.Perm.refl _, HN.out.1, (fun a b _ h => absurd h (Nat.not_lt_zero _)), hown1, hB1⟩); clear hown1 hB1 hg1 hat1)
  obtain ⟨W1, hW1⟩ : ∃ W, W = w1 := ⟨_, rfl⟩
  obtain ⟨N, hN⟩ : ∃ N, N = n := ⟨_, rfl⟩
  have hNb : N ≤ 1048576 := by rw [hN]; exact HN.out.2
  subst hN
  clear H0
  go_loopw [4] (fun i wr => ∃ k : Nat, k ≤ N ∧ i = .int .i64 (k : Int) ∧ SrtH w d Ao N co (fun L => SrtP (idsH L) k) wr) (fun i _ => N - (intOf i).toNat)
  case atStart => exact ⟨0, Nat.zero_le _, rfl, H1.out⟩
  case round =>
    obtain ⟨k, hk, rfl, hS⟩ := hrel
    obtain ⟨W, rfl⟩ : ∃ W, W = wr := ⟨_, rfl⟩
    clear H1
    by_cases hlt : k < N
    · have hlt' : (k : Int) < (N : Int) := by omega
      have hw1 : IntKind.i64.wrap ((k : Int) + 1) = (k : Int) + 1 := by rw [IntKind.wrap_i64]; omega
      have HS := Lib.hid hS
      clear hS
      go_wp2_with fail
      go_loopw [5] (fun j wr => ∃ jj : Nat, jj ≤ k ∧ j = .int .i64 (jj : Int) ∧ SrtH w d Ao N co (fun L => SrtJ (idsH L) k jj) wr) (fun j _ => (intOf j).toNat)
      case atStart =>
        obtain ⟨L, h1, h2, h3, h4, h5⟩ := HS.out
        exact ⟨k, Nat.le_refl _, rfl, L, h1, h2, srt_start h3, h4, h5⟩
      case round =>
        obtain ⟨jj, hjk, rfl, hS⟩ := hrel
        obtain ⟨V, rfl⟩ : ∃ X, X = wr := ⟨_, rfl⟩
        obtain ⟨L, hp, hl, hs, hown, hb⟩ := hS
        clear HS
        rcases Nat.eq_zero_or_pos jj with hj0 | hj0
        · have HE := Lib.hid (show SrtH w d Ao N co (fun L => SrtP (idsH L) (k + 1)) V.drew from ⟨L, hp, hl, srt_end hjk hs (.inl hj0), own_below hown (Below.refl V.heap.size V).drew, hb.trans ((Below.refl V.heap.size V).drew.mono hb.size)⟩)
          have hj1 : ((jj : Nat) : Int) = 0 := by omega
          rw [hj1]
          clear hp hs hown hb hj1
          go_upto_region 6 with fail
          refine wp_region_held_drew (S := fun U => U = V.drew) (by kernel_rfl) rfl (fun hHeld => ?_)
          refine tk 0 ?_
          refine tk 1 ?_
          refine tk 2 ?_
          refine tu 3 ?_
          refine tu 4 ?_
          refine tu 5 ?_
          refine tu 6 ?_
          refine tu 7 ?_
          refine tu 8 ?_
          refine tu 9 ?_
          refine tu 10 ?_
          refine tu 11 ?_
          refine tu 12 ?_
          refine tu 13 ?_
          refine tu 14 ?_
          refine tk 15 ?_
          refine wpAnyH_done (by kernel_rfl) ?_ _
          obtain ⟨X9, hX9⟩ : ∃ X, X = V.drew := ⟨_, rfl⟩
          rw [← hX9] at HE ⊢
          clear hHeld hX9
          go_wp2_with fail
          go_roundw
          case rel => exact ⟨k + 1, by omega, by go_num, HE.out⟩
          case measure => simp [intOf]; omega
        · obtain ⟨i, hij⟩ : ∃ i, i + 1 = jj := ⟨jj - 1, by omega⟩
          have hjL : jj < L.length := by omega
          have hiL : i < L.length := by omega
          have hj1 : (0 : Int) < (jj : Int) := by omega
          have hjn : (jj : Int) < (N : Int) := by omega
          have hin : (i : Int) < (N : Int) := by omega
          have hw2 : IntKind.i64.wrap ((jj : Int) - 1) = (i : Int) := by rw [IntKind.wrap_i64]; omega
          have hix : jj - 1 = i := by omega
          obtain ⟨g, cap, hv, -, hlt2⟩ := hown.form (by omega)
          obtain ⟨ad, hA⟩ : ∃ ad, Ao = some ad := by cases hv; exact ⟨_, rfl⟩
          subst hA
          obtain ⟨e1, he1⟩ : ∃ e, L[i]? = some e := ⟨_, List.getElem?_eq_getElem hiL⟩
          obtain ⟨e2, he2⟩ : ∃ e, L[jj]? = some e := ⟨_, List.getElem?_eq_getElem hjL⟩
          obtain ⟨-, ⟨p1, -, -⟩, -⟩ := own_put_ph hown (k := i) (by omega) he1 e2
          obtain ⟨⟨o1, hBa, hlA⟩, ⟨p2, p3, p4⟩, ⟨f0, f1, f2⟩, ⟨f3, c3⟩, f4, c4⟩ := own_put_ph hown (k := jj) (by omega) he2 e1
          have HE := Lib.hid (And.intro hp (And.intro hl (And.intro hs (And.intro hown (And.intro hb (And.intro he1 (And.intro he2 (And.intro hix (And.intro hjk (And.intro hBa hlA))))))))))
          clear hp hl hs hb hjL hiL hv hlt2 g cap o1 f0 f1 f2 f3 c3 f4 c4 hown he1 he2 hBa hlA hix
          by_cases hgt : e2.1.id < e1.1.id
          · go_upto_region 6 with fail
            refine wp_region_held_drew (S := fun U => U.cell? (ad.add (i * 3)) = some (.int .i64 e1.1.id) ∧ U.cell? (ad.add (jj * 3)) = some (.int .i64 e2.1.id) ∧ U = V.drew) (by kernel_rfl) ⟨p1, p2, rfl⟩ (fun hHeld => ?_)
            refine tk 0 ?_
            refine tk 1 ?_
            refine tk 2 ?_
            refine tk 3 ?_
            refine tk 4 ?_
            refine tk 5 ?_
            refine tk 6 ?_
            refine tk 7 ?_
            refine tk 8 ?_
            refine tk 9 ?_
            refine tk 10 ?_
            refine tk 11 ?_
            refine tk 12 ?_
            refine tk 13 ?_
            refine tk 14 ?_
            refine tk 15 ?_
            refine wpAnyH_done (by kernel_rfl) ?_ _
            obtain ⟨X9, hX9⟩ : ∃ X, X = V.drew := ⟨_, rfl⟩
            have HX := Lib.hid hX9
            rw [← hX9]
            have q1 : X9.cell? (ad.add (jj * 3)) = some (.int .i64 e2.1.id) := by rw [hX9]; exact p2
            have q2 : X9.cell? ⟨(ad.add (jj * 3)).block, (ad.add (jj * 3)).off + 1, none⟩ = some (.slice e2.2.1 e2.2.2.1 e2.2.2.2) := by rw [hX9]; exact p3
            have q3 : X9.cell? ⟨(ad.add (jj * 3)).block, (ad.add (jj * 3)).off + 2, none⟩ = some (.string e2.1.owner) := by rw [hX9]; exact p4
            clear hHeld hX9 p1 p2 p3 p4
            go_upto_region 9 with fail
            obtain ⟨X8, hX8⟩ : ∃ X, X = X9.alloc (.cells #[.int .i64 e2.1.id, .slice e2.2.1 e2.2.2.1 e2.2.2.2, .string e2.1.owner] 37) := ⟨_, rfl⟩
            obtain ⟨B, hB⟩ : ∃ B, B = X9.heap.size := ⟨_, rfl⟩
            have hbX : Below V.heap.size V X8 := by rw [hX8, HX.out]; exact (Below.refl V.heap.size V).drew.alloc (by simp) _
            have hK : PcK X8 B e2.1 e2.2.1 e2.2.2.1 e2.2.2.2 := by rw [hX8, hB]; exact PcK.new X9 _ _ _ _
            have hBad : B ≠ ad.block := by have h1 := HE.out.2.2.2.2.2.2.2.2.2.2; have h2 : B = V.heap.size := by rw [hB, HX.out]; rfl
                                           omega
            have hown8 := own_below HE.out.2.2.2.1 hbX
            have hb8 : Below w.heap.size w X8 := below_on HE.out.2.2.2.2.1 (Nat.le_refl _) hbX
            rw [← hX8, ← hB]
            obtain ⟨-, ⟨p1, p2, p3⟩, -⟩ := own_put_ph hown8 (k := i) (by omega) HE.out.2.2.2.2.2.1 e2
            obtain ⟨⟨o1, hBa, hlA⟩, ⟨y1, y2, y3⟩, ⟨f0, f1, f2⟩, ⟨f3, c3⟩, f4, c4⟩ := own_put_ph hown8 (k := jj) (by omega) HE.out.2.2.2.2.2.2.1 e1
            obtain ⟨Y, hY⟩ : ∃ Y, Y = (((X8.setCell (ad.add (jj * 3)) (.int .i64 e1.1.id)).setCell ⟨(ad.add (jj * 3)).block, (ad.add (jj * 3)).off + 1, none⟩ (.slice e1.2.1 e1.2.2.1 e1.2.2.2)).setCell ⟨(ad.add (jj * 3)).block, (ad.add (jj * 3)).off + 2, none⟩ (.string e1.1.owner)) := ⟨_, rfl⟩
            have hbY : Below w.heap.size w Y := by rw [hY]; exact below_put3 hb8 hBa _ _ _
            have hKY : PcK Y B e2.1 e2.2.1 e2.2.2.1 e2.2.2.2 := by rw [hY]; exact Blk.far (Blk.far (Blk.far hK (by rw [block_of_add]; exact hBad) _) (by simp only [block_of_add]; exact hBad) _) (by simp only [block_of_add]; exact hBad) _
            rw [← hY] at o1
            have hY2 := Lib.hid hY
            have HY := Lib.hid (And.intro o1 (And.intro hbY hKY))
            clear hX8 hB hbX hown8 hb8 hY o1 hbY hKY hK hBad q1 q2 q3
            go_upto_region 10 with fail
            rw [← hY2.out]
            clear hY2 p1 p2 p3 y1 y2 y3 f0 f1 f2 f3 c3 f4 c4 HX X9 X8 hlA
            obtain ⟨q1, q2, q3, -⟩ := HY.out.2.2.facts
            have hg1 : (L.set jj e1)[i]? = some e1 := by rw [List.getElem?_set_ne (by omega)]; exact HE.out.2.2.2.2.2.1
            obtain ⟨⟨o1, -, -⟩, ⟨y1, y2, y3⟩, ⟨f0, f1, f2⟩, ⟨f3, c3⟩, f4, c4⟩ := own_put_ph HY.out.1 (k := i) (by omega) hg1 e2
            obtain ⟨Z, hZ⟩ : ∃ Z, Z = (((Y.setCell (ad.add (i * 3)) (.int .i64 e2.1.id)).setCell ⟨(ad.add (i * 3)).block, (ad.add (i * 3)).off + 1, none⟩ (.slice e2.2.1 e2.2.2.1 e2.2.2.2)).setCell ⟨(ad.add (i * 3)).block, (ad.add (i * 3)).off + 2, none⟩ (.string e2.1.owner)) := ⟨_, rfl⟩
            have hbZ : Below w.heap.size w Z := by rw [hZ]; exact below_put3 HY.out.2.1 hBa _ _ _
            rw [← hZ] at o1
            have HZ := Lib.hid (show SrtH w d (some ad) N co (fun L => SrtJ (idsH L) k i) Z from ⟨swH L i jj e1 e2, (swH_perm HE.out.2.2.2.2.2.1 HE.out.2.2.2.2.2.2.1).trans HE.out.1, by rw [swH_len]; exact HE.out.2.1, by show SrtJ (idsH (swH L i jj e1 e2)) k i; rw [ids_sw HE.out.2.2.2.2.2.2.2.1 HE.out.2.2.2.2.2.1 HE.out.2.2.2.2.2.2.1, ← HE.out.2.2.2.2.2.2.2.1]; exact srt_swap hj0 (by unfold idsH; rw [List.length_map, HE.out.2.1]; omega) HE.out.2.2.2.2.2.2.2.2.1 HE.out.2.2.1 (by rw [HE.out.2.2.2.2.2.2.2.1, ids_get HE.out.2.2.2.2.2.1, ids_get HE.out.2.2.2.2.2.2.1]; exact hgt), o1, hbZ⟩)
            have hZ2 := Lib.hid hZ
            clear hZ o1 hbZ hg1 hBa HE HY
            go_upto_region 7 with fail
            rw [← hZ2.out]
            clear hZ2 q1 q2 q3 y1 y2 y3 f0 f1 f2 f3 c3 f4 c4
            go_wp2_with fail
            go_roundw
            case rel => exact ⟨i, by omega, by go_num, HZ.out⟩
            case measure => simp [intOf]; omega
          · have HE2 := Lib.hid (show SrtH w d (some ad) N co (fun L => SrtP (idsH L) (k + 1)) V.drew from ⟨L, HE.out.1, HE.out.2.1, srt_end HE.out.2.2.2.2.2.2.2.2.1 HE.out.2.2.1 (.inr (by rw [HE.out.2.2.2.2.2.2.2.1, ids_get HE.out.2.2.2.2.2.1, ids_get HE.out.2.2.2.2.2.2.1]; omega)), own_below HE.out.2.2.2.1 (Below.refl V.heap.size V).drew, HE.out.2.2.2.2.1.trans ((Below.refl V.heap.size V).drew.mono HE.out.2.2.2.2.1.size)⟩)
            clear p3 p4
            go_upto_region 6 with fail
            refine wp_region_held_drew (S := fun U => U.cell? (ad.add (i * 3)) = some (.int .i64 e1.1.id) ∧ U.cell? (ad.add (jj * 3)) = some (.int .i64 e2.1.id) ∧ U = V.drew) (by kernel_rfl) ⟨p1, p2, rfl⟩ (fun hHeld => ?_)
            refine tk 0 ?_
            refine tk 1 ?_
            refine tk 2 ?_
            refine tk 3 ?_
            refine tk 4 ?_
            refine tk 5 ?_
            refine tk 6 ?_
            refine tk 7 ?_
            refine tk 8 ?_
            refine tk 9 ?_
            refine tk 10 ?_
            refine tk 11 ?_
            refine tk 12 ?_
            refine tk 13 ?_
            refine tk 14 ?_
            refine tk 15 ?_
            refine wpAnyH_done (by kernel_rfl) ?_ _
            obtain ⟨X9, hX9⟩ : ∃ X, X = V.drew := ⟨_, rfl⟩
            rw [← hX9] at HE2 ⊢
            clear hHeld hX9 p1 p2 HE
            go_wp2_with fail
            go_roundw
            case rel => exact ⟨k + 1, by omega, by go_num, HE2.out⟩
            case measure => simp [intOf]; omega
    · obtain rfl : k = N := by omega
      obtain ⟨L, hp, hl, hs, hown, hb⟩ := hS
      have HE := Lib.hid (And.intro hp (And.intro (show L.Pairwise (fun e f : PcH => ¬ f.1.id < e.1.id) from by have h1 := srt_pair (L := idsH L) (by rw [show (idsH L).length = k by unfold idsH; simp [hl]]; exact hs); have h2 := List.pairwise_map.1 (show (L.map (·.1.id)).Pairwise (· ≤ ·) from h1); exact h2.imp (fun h => by omega)) (And.intro hown hb)))
      clear hp hs hown hb
      go_wp2_with fail
      go_ret
      exact ⟨Ao, co, rfl, L, HE.out.1, HE.out.2.1, HE.out.2.2.1, HE.out.2.2.2⟩
end Go.Proofs.YtnpjggcgnbgkjaaGreat

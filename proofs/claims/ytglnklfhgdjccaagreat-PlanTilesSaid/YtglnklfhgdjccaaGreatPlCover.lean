/- plan.Cover: the walk. -/
import Derived.Test.YtglnklfhgdjccaaGreatPlanCheck
import Derived.Test.YtglnklfhgdjccaaGreatFind
import Derived.Test.YtglnklfhgdjccaaGreatInts
import Derived.Test.YtglnklfhgdjccaaGreatInner
import Derived.Deep.DeepCutAuto
import Derived.OwnWalk
namespace Go.Proofs.YtglnklfhgdjccaaGreat
open Go.RowKit Go.Lib
/-- The names of the parcels that answer s. -/
noncomputable def covI (s m : Int) (q : Pt) (ps : List Parc) : List Int := (ps.filter fun x => decide (sideI (scL m x.ring) q = s)).map Parc.id
theorem covI_succ {s m : Int} {q : Pt} {ps : List Parc} {k : Nat} (h : k < ps.length) : covI s m q (ps.take (k + 1)) = covI s m q (ps.take k) ++ if sideI (scL m (pcAt ps k).ring) q = s then [(pcAt ps k).id] else [] := by
  rw [List.take_succ_eq_append_getElem h, pcAt_lt h]
  unfold covI
  rw [List.filter_append, List.map_append]
  congr 1
  by_cases e : sideI (scL m ps[k].ring) q = s
  · simp [List.filter, e]
  · simp [List.filter, e]
theorem covI_le (s m : Int) (q : Pt) (ps : List Parc) (k : Nat) : (covI s m q (ps.take k)).length ≤ k := by
  unfold covI
  rw [List.length_map]
  exact Nat.le_trans (List.length_filter_le _ _) (by rw [List.length_take]; omega)
def offB (q : Pt) (m : Int) : Bool := decide (q.x < -(1073741824 * m) ∨ 1073741824 * m < q.x ∨ q.y < -(1073741824 * m) ∨ 1073741824 * m < q.y)
noncomputable def covE (p : Plan) (q : Pt) (m : Int) : Int := if planB p = true then (if m < 1 ∨ 1024 < m then 1 else if offB q m = true then 3 else 0) else 2
noncomputable def covL (p : Plan) (s : Int) (q : Pt) (m : Int) : List Int := if covE p q m = 0 then covI s m q p.parcels else []
theorem covL_no {p : Plan} {q : Pt} {m : Int} (h : covE p q m ≠ 0) (s : Int) : covL p s q m = [] := if_neg h
theorem covL_ok {p : Plan} {q : Pt} {m : Int} (h : covE p q m = 0) (s : Int) : covL p s q m = covI s m q p.parcels := if_pos h
set_option maxRecDepth 100000 in
set_option maxHeartbeats 3200000 in
theorem coverPl_any (p : Plan) (q : Pt) (m : Int) (A A' : Option Addr) (n c n' c' : Nat) (w : World) (h : PlanAt w w.heap.size A n c A' n' c' p) :
    Calls Tryz.prog 45 #[planV A n c A' n' c', .int .i64 q.x, .int .i64 q.y, .int .i64 m] w fun e w' => ∃ A1 n1 c1 A2 n2 c2, e = .returned (.tuple #[.slice A1 n1 c1, .slice A2 n2 c2, .int .i64 (covE p q m)]) ∧
      TwoI w.heap.size w' (.slice A1 n1 c1) n1 (covL p 1 q m) (.slice A2 n2 c2) n2 (covL p 0 q m) ∧ Below w.heap.size w w' := by
  obtain ⟨i0, hi0, hz0, hz1, hz2⟩ := info_parts info_i
  obtain ⟨ce, hce0⟩ : ∃ ce, ce = covE p q m := ⟨_, rfl⟩
  rw [← hce0]
  have HC0 := Lib.hid hce0
  clear hce0
  have HP := Lib.hid (fun V (hV : Below w.heap.size w V) => h.on hV)
  have H0 := Lib.hid (And.intro ((Below.refl w.heap.size w).alloc (Nat.le_refl _) (.cells #[.slice A n c, .slice A' n' c'] 26)) (PlK.new w A n c A' n' c'))
  have kC := Lib.hid (checkPl_any p A A' n c n' c' _ (h.on H0.out.1))
  have hn' : n' ≤ 8796093022208 := h.lens.2.2.2
  have HL := Lib.hid h.lens.2.1
  clear h
  obtain ⟨q1, q2, -⟩ := H0.out.2.facts
  go_enter Tryz.func45, Tryz.ntmps45
  go_wp2_with fail
  refine kC.out.mono ?_
  rintro e w1 ⟨rfl, hb⟩
  have H1 := Lib.hid (And.intro (below_on H0.out.1 (Nat.le_refl _) hb) (H0.out.2.on hb))
  clear hb H0 kC q1 q2
  obtain ⟨q1, q2, -⟩ := H1.out.2.facts
  have hbb : (planB p = true ∧ planE p = 0) ∨ (planB p = false ∧ planE p = 2) := by
    rcases hb : planB p with _ | _
    · exact .inr ⟨rfl, planE_b0 hb⟩
    · exact .inl ⟨rfl, planE_b1 hb⟩
  rcases hbb with ⟨hB, hE⟩ | ⟨hB, hE⟩
  case inr =>
    have hc : covE p q m = 2 := by unfold covE; rw [hB]; rfl
    have HN := Lib.hid (covL_no (p := p) (q := q) (m := m) (by omega))
    have HE2 : Hid (ce = 2) := HC0.out.trans hc
    rw [hE]
    clear hE hB hc
    go_wp2_with fail
    go_ret3
    exact ⟨none, 0, 0, none, 0, 0, by rw [HE2.out]; rfl, by rw [HN.out, HN.out]; exact TwoI.nil, H1.out.1⟩
  rw [hE]
  have hs := planB_sound hB
  have hce : covE p q m = if m < 1 ∨ 1024 < m then 1 else if offB q m = true then 3 else 0 := by unfold covE; rw [if_pos hB]
  clear hE hB
  by_cases m1 : m < 1
  · have hc : covE p q m = 1 := by rw [hce, if_pos (Or.inl m1)]
    have HN := Lib.hid (covL_no (p := p) (q := q) (m := m) (by omega))
    have HE2 : Hid (ce = 1) := HC0.out.trans hc
    clear hce hc hs
    go_wp2_with fail
    go_ret3
    exact ⟨none, 0, 0, none, 0, 0, by rw [HE2.out]; rfl, by rw [HN.out, HN.out]; exact TwoI.nil, H1.out.1⟩
  by_cases m2 : 1024 < m
  · have hc : covE p q m = 1 := by rw [hce, if_pos (Or.inr m2)]
    have HN := Lib.hid (covL_no (p := p) (q := q) (m := m) (by omega))
    have HE2 : Hid (ce = 1) := HC0.out.trans hc
    clear hce hc hs
    go_wp2_with fail
    go_ret3
    exact ⟨none, 0, 0, none, 0, 0, by rw [HE2.out]; rfl, by rw [HN.out, HN.out]; exact TwoI.nil, H1.out.1⟩
  rw [if_neg (by omega)] at hce
  obtain ⟨M, hM⟩ : ∃ M, M = 1073741824 * m := ⟨_, rfl⟩
  have hMb : 1 ≤ M ∧ M ≤ 1099511627776 := by omega
  have v1 : IntKind.i64.wrap (1073741824 * m) = M := by rw [← hM, IntKind.wrap_i64]; omega
  have v2 : IntKind.i64.wrap (-M) = -M := by rw [IntKind.wrap_i64]; omega
  obtain ⟨ob, hob⟩ : ∃ ob, ob = offB q m := ⟨_, rfl⟩
  have hob2 : ob = decide (q.x < -M ∨ M < q.x ∨ q.y < -M ∨ M < q.y) := by rw [hob, hM]; rfl
  rw [← hob] at hce
  have HS := Lib.hid hs
  have HM := Lib.hid hM
  have HCE := Lib.hid hce
  have HO := Lib.hid hob2
  have HMB := Lib.hid hMb
  clear hs hM hce hob hob2 hMb
  go_upto_region 7 with fail
  go_cut [40] (fun s wx => s = .bool ob ∧ wx = w1)
  case first =>
    go_wp2_with fail
    all_goals
      go_meet
      refine ⟨?_, rfl⟩
      rw [HO.out]
      refine congrArg Value.bool ?_
      rw [Bool.eq_iff_iff]
      simp only [decide_eq_true_eq, true_iff, Bool.or_eq_true]
      omega
  case rest =>
    obtain ⟨rfl, rfl⟩ := hcut
    rename World => W
    clear v1 v2
    rcases ob with _ | _
    case true =>
      have hc : covE p q m = 3 := by rw [HCE.out]; rfl
      have HN := Lib.hid (covL_no (p := p) (q := q) (m := m) (by omega))
      have HE2 : Hid (ce = 3) := HC0.out.trans hc
      clear hc
      go_wp2_with fail
      go_ret3
      exact ⟨none, 0, 0, none, 0, 0, by rw [HE2.out]; rfl, by rw [HN.out, HN.out]; exact TwoI.nil, H1.out.1⟩
    have hc : covE p q m = 0 := by rw [HCE.out]; rfl
    have HN := Lib.hid (covL_ok (p := p) (q := q) (m := m) hc)
    have HE2 : Hid (ce = 0) := HC0.out.trans hc
    have hqb : Hid (-(1073741824 * m) ≤ q.x ∧ q.x ≤ 1073741824 * m ∧ -(1073741824 * m) ≤ q.y ∧ q.y ≤ 1073741824 * m) := by
      have := of_decide_eq_false HO.out.symm
      rw [HM.out] at this
      show _ ∧ _
      omega
    clear hc HCE HO HM HMB
    go_wp2_with fail
    go_loopw [8, 9, 44] (fun s8 s9 i wr => ∃ k : Nat, k ≤ n' ∧ i = .int .i64 (k : Int) ∧ ∃ A1 n1 c1 A2 n2 c2, s8 = .slice A1 n1 c1 ∧ s9 = .slice A2 n2 c2 ∧ TwoI w.heap.size wr (.slice A1 n1 c1) n1 (covI 1 m q (p.parcels.take k)) (.slice A2 n2 c2) n2 (covI 0 m q (p.parcels.take k)) ∧ Below w.heap.size w wr) (fun _ _ i _ => n' - (intOf i).toNat)
    case atStart => exact ⟨0, Nat.zero_le _, rfl, none, 0, 0, none, 0, 0, rfl, rfl, TwoI.nil, H1.out.1⟩
    case round =>
      clear H1 q1 q2
      obtain ⟨k, hk, rfl, A1, n1, c1, A2, n2, c2, rfl, rfl, hT, hbel⟩ := hrel
      by_cases hlt : k < n'
      · have hlt' : (k : Int) < (n' : Int) := by omega
        have hw1 : IntKind.i64.wrap ((k : Int) + 1) = (k : Int) + 1 := by rw [IntKind.wrap_i64]; omega
        have hkl : k < p.parcels.length := by have := HL.out; omega
        have hPK := HP.out wr hbel
        obtain ⟨ad, rfl⟩ := hPK.parcs.some_ (by omega)
        obtain ⟨-, p1, ⟨Ak, nk, ck, p2, hrk, hk1, hk2⟩, p3⟩ := hPK.parcs.at_ hlt
        have s1 := covI_succ (s := 1) (m := m) (q := q) hkl
        have s0 := covI_succ (s := 0) (m := m) (q := q) hkl
        have hx : pcAt p.parcels k ∈ p.parcels := by rw [pcAt_lt hkl]; exact List.getElem_mem _
        have hck := checkI_zero (HS.out.2.2.1 _ hx).1
        obtain ⟨x, hx1⟩ : ∃ x, x = pcAt p.parcels k := ⟨_, rfl⟩
        rw [← hx1] at p1 p3 hrk s1 s0 hck
        clear hx hx1 hPK
        have hrW : Reads (wr.alloc (.cells #[.int .i64 x.id, .slice Ak nk ck, .string x.owner] 40)) (wr.alloc (.cells #[.int .i64 x.id, .slice Ak nk ck, .string x.owner] 40)).heap.size 2 Ak nk (ptsV x.ring) := hrk.on ((Below.refl wr.heap.size wr).alloc (Nat.le_refl _) _)
        have kI := inner_any x.ring q m Ak nk ck (wr.alloc (.cells #[.int .i64 x.id, .slice Ak nk ck, .string x.owner] 40)) hrW (by have := hrW.lenPt; omega) hck.2.1 (by omega) (by omega) hqb.out
        unfold ptV at kI
        obtain ⟨s, hsd⟩ : ∃ s, s = sideI (scL m x.ring) q := ⟨_, rfl⟩
        rw [← hsd] at kI s1 s0
        clear hsd
        have KI := Lib.hid kI
        have hc1 := (Reads.of_own hT.one).lenI
        have hc2 := (Reads.of_own hT.two).lenI
        have hc3 := covI_le 1 m q p.parcels k
        have hc4 := covI_le 0 m q p.parcels k
        rw [hc1] at hc3
        rw [hc2] at hc4
        have H5 := Lib.hid (And.intro (hT.on ((Below.refl wr.heap.size wr).alloc (Nat.le_refl _) (.cells #[.int .i64 x.id, .slice Ak nk ck, .string x.owner] 40))) (And.intro (hbel.alloc hbel.size (.cells #[.int .i64 x.id, .slice Ak nk ck, .string x.owner] 40)) (PcK.new wr x Ak nk ck)))
        clear kI hrW hrk hck hT hbel hc1 hc2 hk1 hk2
        go_wp2_with fail
        refine KI.out.mono ?_
        rintro e w2 ⟨rfl, hb2⟩
        have H6 := Lib.hid (And.intro (H5.out.1.on hb2) (And.intro (below_on H5.out.2.1 (Nat.le_refl _) hb2) (H5.out.2.2.on hb2)))
        clear hb2 H5 KI p1 p2 p3
        obtain ⟨f1, -⟩ := H6.out.2.2.facts
        by_cases e1 : s = 1
        · have HS1 : Hid (covI 1 m q (p.parcels.take (k + 1)) = covI 1 m q (p.parcels.take k) ++ [x.id]) := by show _ = _; rw [s1, if_pos e1]
          have HS0 : Hid (covI 0 m q (p.parcels.take (k + 1)) = covI 0 m q (p.parcels.take k)) := by show _ = _; rw [s0, if_neg (by omega), List.append_nil]
          have b1 : (s == 1) = true := by simp [e1]
          have hA1 := H6.out.1.on ((Below.refl w2.heap.size w2).alloc (Nat.le_refl _) (.cells #[.int .i64 x.id] 3))
          have hA2 := H6.out.2.1.alloc H6.out.2.1.size (.cells #[.int .i64 x.id] 3)
          have hA3 := Reads.made w2 #[.int .i64 x.id] 3 (0, 0) 1 1 (intsV [x.id]) rfl rfl
          have hA4 : n1 + 1 ≤ maxLen := by simp only [maxLen]; omega
          have hA5 : (n1 + 1) * 8 ≤ 140737488355328 := by omega
          have HA := Lib.hid (And.intro hA1 (And.intro hA2 (And.intro hA3 (And.intro hA4 hA5))))
          clear s1 s0 e1 hA1 hA2 hA3 hA4 hA5
          go_wp2_with (at_builtin; refine wpList_append_any _ rfl (.tmp 57) (.tmp 60) _ rfl w.heap.size 3 i0 _ 1 8 Tryz.underlying72 hi0 hz0 hz1 hz2 rfl (by omega) (.slice A1 n1 c1) n1 _ rfl HA.out.1.one (w2.alloc (.cells #[.int .i64 x.id] 3)).heap.size (some ⟨w2.heap.size, 0, none⟩) 1 1 (intsV [x.id]) rfl HA.out.2.2.1 (intsV_one _) HA.out.2.2.2.1 HA.out.2.2.2.2 HA.out.2.1.size ?_; intro v6 w6 hown6 hg6 hat6)
          have hB6 : Below w.heap.size w w6 := HA.out.2.1.grown hg6 HA.out.2.1.size (fun g hg => (HA.out.1.one.lt g hg).1)
          rw [← intsV_append] at hown6
          have hT6 := HA.out.1.app hown6 hg6 hat6
          obtain ⟨A6, c6, rfl⟩ := own_form hown6
          have H7 := Lib.hid (And.intro hT6 hB6)
          clear hown6 hB6 hg6 hat6 hT6 HA
          go_roundw
          case rel => exact ⟨k + 1, by omega, by go_num, A6, n1 + 1, c6, A2, n2, c2, rfl, rfl, by rw [HS1.out, HS0.out]; exact H7.out.1, H7.out.2⟩
          case measure => simp [intOf]; omega
        by_cases e0 : s = 0
        · have HS1 : Hid (covI 1 m q (p.parcels.take (k + 1)) = covI 1 m q (p.parcels.take k)) := by show _ = _; rw [s1, if_neg (by omega), List.append_nil]
          have HS0 : Hid (covI 0 m q (p.parcels.take (k + 1)) = covI 0 m q (p.parcels.take k) ++ [x.id]) := by show _ = _; rw [s0, if_pos e0]
          have b1 : (s == 1) = false := by simp [e1]
          have b0 : (s == 0) = true := by simp [e0]
          have hA1 := H6.out.1.on ((Below.refl w2.heap.size w2).alloc (Nat.le_refl _) (.cells #[.int .i64 x.id] 3))
          have hA2 := H6.out.2.1.alloc H6.out.2.1.size (.cells #[.int .i64 x.id] 3)
          have hA3 := Reads.made w2 #[.int .i64 x.id] 3 (0, 0) 1 1 (intsV [x.id]) rfl rfl
          have hA4 : n2 + 1 ≤ maxLen := by simp only [maxLen]; omega
          have hA5 : (n2 + 1) * 8 ≤ 140737488355328 := by omega
          have HA := Lib.hid (And.intro hA1 (And.intro hA2 (And.intro hA3 (And.intro hA4 hA5))))
          clear s1 s0 e0 e1 hA1 hA2 hA3 hA4 hA5
          go_wp2_with (at_builtin; refine wpList_append_any _ rfl (.tmp 64) (.tmp 67) _ rfl w.heap.size 3 i0 _ 1 8 Tryz.underlying72 hi0 hz0 hz1 hz2 rfl (by omega) (.slice A2 n2 c2) n2 _ rfl HA.out.1.swap.one (w2.alloc (.cells #[.int .i64 x.id] 3)).heap.size (some ⟨w2.heap.size, 0, none⟩) 1 1 (intsV [x.id]) rfl HA.out.2.2.1 (intsV_one _) HA.out.2.2.2.1 HA.out.2.2.2.2 HA.out.2.1.size ?_; intro v6 w6 hown6 hg6 hat6)
          have hB6 : Below w.heap.size w w6 := HA.out.2.1.grown hg6 HA.out.2.1.size (fun g hg => (HA.out.1.swap.one.lt g hg).1)
          rw [← intsV_append] at hown6
          have hT6 := HA.out.1.swap.app hown6 hg6 hat6
          obtain ⟨A6, c6, rfl⟩ := own_form hown6
          have H7 := Lib.hid (And.intro hT6 hB6)
          clear hown6 hB6 hg6 hat6 hT6 HA
          go_roundw
          case rel => exact ⟨k + 1, by omega, by go_num, A1, n1, c1, A6, n2 + 1, c6, rfl, rfl, by rw [HS1.out, HS0.out]; exact H7.out.1.swap, H7.out.2⟩
          case measure => simp [intOf]; omega
        · have HS1 : Hid (covI 1 m q (p.parcels.take (k + 1)) = covI 1 m q (p.parcels.take k)) := by show _ = _; rw [s1, if_neg e1, List.append_nil]
          have HS0 : Hid (covI 0 m q (p.parcels.take (k + 1)) = covI 0 m q (p.parcels.take k)) := by show _ = _; rw [s0, if_neg e0, List.append_nil]
          have b1 : (s == 1) = false := by simp [e1]
          have b0 : (s == 0) = false := by simp [e0]
          clear s1 s0 e1 e0
          go_wp2_with fail
          go_roundw
          case rel => exact ⟨k + 1, by omega, by go_num, A1, n1, c1, A2, n2, c2, rfl, rfl, by rw [HS1.out, HS0.out]; exact H6.out.1, H6.out.2.1⟩
          case measure => simp [intOf]; omega
      · have hkn : k = n' := by omega
        subst hkn
        have htk : p.parcels.take k = p.parcels := List.take_of_length_le (by have := HL.out; omega)
        rw [htk] at hT
        have HB := Lib.hid (And.intro hT hbel)
        clear hT hbel htk
        go_wp2_with fail
        go_ret3
        exact ⟨A1, n1, c1, A2, n2, c2, by rw [HE2.out]; rfl, by rw [HN.out, HN.out]; exact HB.out.1, HB.out.2⟩
end Go.Proofs.YtglnklfhgdjccaaGreat

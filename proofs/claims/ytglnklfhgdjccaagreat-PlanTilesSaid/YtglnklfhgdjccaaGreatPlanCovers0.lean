/- merestonelaw05.PlanCovers: the walk. -/
import Derived.Test.YtglnklfhgdjccaaGreatPlCover
import Derived.Test.YtglnklfhgdjccaaGreatCoverR
import Derived.Test.YtglnklfhgdjccaaGreatOwned2
import Derived.Test.YtglnklfhgdjccaaGreatPlanCheck2
import Derived.Test.YtglnklfhgdjccaaGreatCheckPR
namespace Go.Proofs.YtglnklfhgdjccaaGreat
open Go.RowKit Go.Lib
theorem covL_len (p : Plan) (s : Int) (q : Pt) (m : Int) : (covL p s q m).length ≤ p.parcels.length := by
  unfold covL
  split
  · unfold covI
    rw [List.length_map]
    exact List.length_filter_le _ _
  · simp
theorem covE_no {p : Plan} (q : Pt) (m : Int) (h : planB p = false) : covE p q m = 2 := by unfold covE; rw [h]; rfl
theorem covE_arg {p : Plan} (q : Pt) {m : Int} (h : planB p = true) (hm : m < 1 ∨ 1024 < m) : covE p q m = 1 := by unfold covE; rw [if_pos h, if_pos hm]
theorem covE_rg {p : Plan} (q : Pt) {m M : Int} (h : planB p = true) (hm : ¬ (m < 1 ∨ 1024 < m)) (hM : M = 1073741824 * m) : covE p q m = if q.x < -M ∨ M < q.x ∨ q.y < -M ∨ M < q.y then 3 else 0 := by
  unfold covE offB
  rw [if_pos h, if_neg hm, hM]
  simp only [decide_eq_true_eq]
theorem covE_zero {p : Plan} {q : Pt} {m : Int} (h : covE p q m = 0) : SoundP p ∧ 1 ≤ m ∧ m ≤ 1024 ∧ (-(1073741824 * m) ≤ q.x ∧ q.x ≤ 1073741824 * m ∧ -(1073741824 * m) ≤ q.y ∧ q.y ≤ 1073741824 * m) := by
  rcases hb : planB p with _ | _
  · rw [covE_no q m hb] at h; omega
  · by_cases hm : m < 1 ∨ 1024 < m
    · rw [covE_arg q hb hm] at h; omega
    · rw [covE_rg q hb hm rfl] at h
      refine ⟨planB_sound hb, by omega, by omega, ?_⟩
      split at h <;> omega
set_option maxRecDepth 100000 in
set_option maxHeartbeats 3200000 in
theorem planCovers_any (p : Plan) (q : Pt) (m : Int) (A A' : Option Addr) (n c n' c' : Nat) (w : World) (h : PlanAt w w.heap.size A n c A' n' c' p) :
    Calls Tryz.prog 10 #[planV A n c A' n' c', .int .i64 q.x, .int .i64 q.y, .int .i64 m] w fun e w' => e = .returned (.bool true) ∧ Below w.heap.size w w' := by
  obtain ⟨i0, hi0, hz0, hz1, hz2⟩ := info_parts info_i
  have hn' : n' ≤ 8796093022208 := h.lens.2.2.2
  have HL := Lib.hid h.lens.2.1
  have HP := Lib.hid (fun V (hV : Below w.heap.size w V) => h.on hV)
  have H0 := Lib.hid (And.intro ((Below.refl w.heap.size w).alloc (Nat.le_refl _) (.cells #[.slice A n c, .slice A' n' c'] 26)) (PlK.new w A n c A' n' c'))
  clear h
  go_enter Tryz.func10, Tryz.ntmps10
  go_wp2_with fail
  refine (ans05_any _).mono ?_
  rintro e w1 ⟨rfl, hb⟩
  have H1 := Lib.hid (And.intro (below_on H0.out.1 (Nat.le_refl _) hb) (H0.out.2.on hb))
  clear hb H0
  obtain ⟨q1, q2, -⟩ := H1.out.2.facts
  go_wp2_with fail
  refine (small_any p A A' n c n' c' w1 (HP.out w1 H1.out.1)).mono ?_
  rintro e w2 hS
  obtain ⟨b, rfl, hsm, hb⟩ := hS
  have H2 := Lib.hid (And.intro (below_on H1.out.1 (Nat.le_refl _) hb) (H1.out.2.on hb))
  clear hb H1 q1 q2
  obtain ⟨q1, q2, -⟩ := H2.out.2.facts
  rcases b with _ | _
  · clear hsm
    go_wp2_with fail
    refine (ans05_any _).mono ?_
    rintro e w3 ⟨rfl, hb⟩
    have hB := below_on H2.out.1 (Nat.le_refl _) hb
    clear hb H2 q1 q2
    go_wp2_with fail
    go_ret
    exact ⟨rfl, hB⟩
  have hn80 := (hsm rfl).1
  clear hsm
  have HN := Lib.hid hn80
  clear hn80
  go_wp2_with fail
  refine (ownPl_any p A A' n c n' c' w2 (HP.out w2 H2.out.1) (by have := HN.out; omega)).mono ?_
  rintro e w3 ⟨A3, n3, c3, A4, n4, c4, rfl, hP3, hb⟩
  have kC := Lib.hid (coverPl_any p q m A3 A4 n3 c3 n4 c4 w3 hP3)
  have H3 := Lib.hid (And.intro (below_on H2.out.1 (Nat.le_refl _) hb) (H2.out.2.on hb))
  clear hb H2 q1 q2 hP3
  go_wp2_with fail
  refine kC.out.mono ?_
  rintro e w4 ⟨A5, n5, c5, A6, n6, c6, rfl, hT, hb⟩
  have H4 := Lib.hid (And.intro (below_on H3.out.1 (Nat.le_refl _) hb) (H3.out.2.on hb))
  have hR1 := Reads.of_own hT.one
  have hR2 := Reads.of_own hT.two
  have hl5 : n5 ≤ n' := by rw [← hR1.lenI, ← HL.out]; exact covL_len _ _ _ _
  have hl6 : n6 ≤ n' := by rw [← hR2.lenI, ← HL.out]; exact covL_len _ _ _ _
  obtain ⟨ce, hce⟩ : ∃ ce, ce = covE p q m := ⟨_, rfl⟩
  rw [← hce]
  have HE := Lib.hid hce
  have HR4 := Lib.hid (And.intro (fun V (hV : Below w4.heap.size w4 V) => hR1.on hV) (And.intro (fun V (hV : Below w4.heap.size w4 V) => hR2.on hV) (And.intro hl5 hl6)))
  clear hb H3 kC hT hR1 hR2 hl5 hl6 hce
  obtain ⟨q1, q2, -⟩ := H4.out.2.facts
  go_wp2_with fail
  refine (checkPR_any p A A' n c n' c' w4 (HP.out w4 H4.out.1)).mono ?_
  rintro e w5 ⟨rfl, hb⟩
  have H5 := Lib.hid (And.intro (below_on H4.out.1 (Nat.le_refl _) hb) (H4.out.2.on hb))
  have HR := Lib.hid (And.intro (fun V (hV : Below w5.heap.size w5 V) => HR4.out.1 V (below_on hb (Nat.le_refl _) hV)) (And.intro (fun V (hV : Below w5.heap.size w5 V) => HR4.out.2.1 V (below_on hb (Nat.le_refl _) hV)) HR4.out.2.2))
  clear hb H4 HR4 q1 q2
  obtain ⟨pb, hpb⟩ : ∃ pb, pb = planB p := ⟨_, rfl⟩
  rw [← hpb]
  have HPB := Lib.hid hpb
  clear hpb
  go_upto_if 36 with fail
  go_cut [12] (fun s wx => s = .int .i64 ce ∧ wx = w5)
  case first =>
    rcases pb with _ | _
    · have e9 : Hid (ce = 2) := HE.out.trans (covE_no q m HPB.out.symm)
      go_wp2_with fail
      go_meet
      exact ⟨by rw [e9.out], rfl⟩
    · by_cases m1 : m < 1
      · have e9 : Hid (ce = 1) := HE.out.trans (covE_arg q HPB.out.symm (.inl m1))
        go_wp2_with fail
        go_meet
        exact ⟨by rw [e9.out], rfl⟩
      · by_cases m2 : 1024 < m
        · have e9 : Hid (ce = 1) := HE.out.trans (covE_arg q HPB.out.symm (.inr m2))
          go_wp2_with fail
          go_meet
          exact ⟨by rw [e9.out], rfl⟩
        · obtain ⟨M, hM⟩ : ∃ M, M = 1073741824 * m := ⟨_, rfl⟩
          have HC : Hid (ce = covE p q m) := HE
          have hrg := covE_rg q HPB.out.symm (by omega : ¬ (m < 1 ∨ 1024 < m)) hM
          have v1 : IntKind.i64.wrap (1073741824 * m) = M := by rw [← hM, IntKind.wrap_i64]; omega
          have v2 : IntKind.i64.wrap (-1073741824 * m) = -M := by rw [show -1073741824 * m = -M by omega, IntKind.wrap_i64]; omega
          clear hM
          by_cases c0 : q.x < -M
          · have e9 : Hid (ce = 3) := by show _ = _; rw [HC.out, hrg, if_pos (by omega)]
            clear hrg 
            go_wp2_with fail
            go_meet
            exact ⟨by rw [e9.out], rfl⟩
          · by_cases c1 : M < q.x
            · have e9 : Hid (ce = 3) := by show _ = _; rw [HC.out, hrg, if_pos (by omega)]
              clear hrg 
              go_wp2_with fail
              go_meet
              exact ⟨by rw [e9.out], rfl⟩
            · by_cases c2 : q.y < -M
              · have e9 : Hid (ce = 3) := by show _ = _; rw [HC.out, hrg, if_pos (by omega)]
                clear hrg 
                go_wp2_with fail
                go_meet
                exact ⟨by rw [e9.out], rfl⟩
              · by_cases c3 : M < q.y
                · have e9 : Hid (ce = 3) := by show _ = _; rw [HC.out, hrg, if_pos (by omega)]
                  clear hrg 
                  go_wp2_with fail
                  go_meet
                  exact ⟨by rw [e9.out], rfl⟩
                · have e9 : Hid (ce = 0) := by show _ = _; rw [HC.out, hrg, if_neg (by omega)]
                  clear hrg 
                  go_wp2_with fail
                  go_meet
                  exact ⟨by rw [e9.out], rfl⟩
  case rest =>
    obtain ⟨rfl, rfl⟩ := hcut
    rename World => w5
    have hne : (ce != ce) = false := by simp
    clear HPB
    by_cases h0 : ce = 0
    · subst h0
      have HS := Lib.hid (covE_zero HE.out.symm)
      go_wp2_with fail
      go_loopw [13, 14, 15] (fun s13 s14 i wr => ∃ k : Nat, k ≤ n' ∧ i = .int .i64 (k : Int) ∧ ∃ A1 n1 c1 A2 n2 c2, s13 = .slice A1 n1 c1 ∧ s14 = .slice A2 n2 c2 ∧ TwoI w5.heap.size wr (.slice A1 n1 c1) n1 (covI 1 m q (p.parcels.take k)) (.slice A2 n2 c2) n2 (covI 0 m q (p.parcels.take k)) ∧ Below w5.heap.size w5 wr) (fun _ _ i _ => n' - (intOf i).toNat)
      case atStart => exact ⟨0, Nat.zero_le _, rfl, none, 0, 0, none, 0, 0, rfl, rfl, TwoI.nil, Below.refl _ _⟩
      case round =>
        obtain ⟨k, hk, rfl, A1, n1, c1, A2, n2, c2, rfl, rfl, hT, hbel⟩ := hrel
        have hK : PlK wr w.heap.size A n c A' n' c' := H5.out.2.on hbel
        have hPK := HP.out wr (below_on H5.out.1 (Nat.le_refl _) hbel)
        obtain ⟨q1, q2, -⟩ := hK.facts
        by_cases hlt : k < n'
        · have hlt' : (k : Int) < (n' : Int) := by omega
          have hw1 : IntKind.i64.wrap ((k : Int) + 1) = (k : Int) + 1 := by rw [IntKind.wrap_i64]; omega
          have hkl : k < p.parcels.length := by have := HL.out; omega
          obtain ⟨ad, rfl⟩ := hPK.parcs.some_ (by omega)
          obtain ⟨-, p1, ⟨Ak, nk, ck, p2, hrk, hk1, hk2⟩, p3⟩ := hPK.parcs.at_ hlt
          have s1 := covI_succ (s := 1) (m := m) (q := q) hkl
          have s0 := covI_succ (s := 0) (m := m) (q := q) hkl
          have hx : pcAt p.parcels k ∈ p.parcels := by rw [pcAt_lt hkl]; exact List.getElem_mem _
          have hck := checkI_zero (HS.out.1.2.2.1 _ hx).1
          have hX : ∀ V, Below wr.heap.size wr V → V.cell? (ad.add (k * 3)) = some (.int .i64 (pcAt p.parcels k).id) := fun V hV => ((hPK.on hV).parcs.at_ hlt).2.1
          obtain ⟨x, hx1⟩ : ∃ x, x = pcAt p.parcels k := ⟨_, rfl⟩
          rw [← hx1] at p1 p3 hrk s1 s0 hck hX
          clear hx hx1 hPK
          have kI := coverR_any x.ring q m Ak nk ck wr hrk (by have := hrk.lenPt; omega) hck.2.1 HS.out.2.1 HS.out.2.2.1 HS.out.2.2.2
          obtain ⟨s, hsd⟩ : ∃ s, s = sideI (scL m x.ring) q := ⟨_, rfl⟩
          rw [← hsd] at kI s1 s0
          clear hsd
          have KI := Lib.hid kI
          have KX := Lib.hid hX
          have hc1 := (Reads.of_own hT.one).lenI
          have hc2 := (Reads.of_own hT.two).lenI
          have hc3 := covI_le 1 m q p.parcels k
          have hc4 := covI_le 0 m q p.parcels k
          rw [hc1] at hc3
          rw [hc2] at hc4
          have H6a := Lib.hid (And.intro hT (And.intro hbel hK))
          clear kI hrk hck hT hbel hc1 hc2 hk1 hk2 hX hK p1 p3
          go_wp2_with fail
          refine KI.out.mono ?_
          rintro e w7 ⟨rfl, hb2⟩
          have H6 := Lib.hid (And.intro (H6a.out.1.on hb2) (And.intro (below_on H6a.out.2.1 (Nat.le_refl _) hb2) (H6a.out.2.2.on hb2)))
          have f1 := KX.out w7 hb2
          clear hb2 H6a KI KX p2 q1 q2
          obtain ⟨q1, q2, -⟩ := H6.out.2.2.facts
          by_cases e1 : s = 1
          · have HS1 : Hid (covI 1 m q (p.parcels.take (k + 1)) = covI 1 m q (p.parcels.take k) ++ [x.id]) := by show _ = _; rw [s1, if_pos e1]
            have HS0 : Hid (covI 0 m q (p.parcels.take (k + 1)) = covI 0 m q (p.parcels.take k)) := by show _ = _; rw [s0, if_neg (by omega), List.append_nil]
            have b1 : (s == 1) = true := by simp [e1]
            have hA1 := H6.out.1.on ((Below.refl w7.heap.size w7).alloc (Nat.le_refl _) (.cells #[.int .i64 x.id] 3))
            have hA2 := H6.out.2.1.alloc H6.out.2.1.size (.cells #[.int .i64 x.id] 3)
            have hA3 := Reads.made w7 #[.int .i64 x.id] 3 (0, 0) 1 1 (intsV [x.id]) rfl rfl
            have hA4 : n1 + 1 ≤ maxLen := by simp only [maxLen]; omega
            have hA5 : (n1 + 1) * 8 ≤ 140737488355328 := by omega
            have HA := Lib.hid (And.intro hA1 (And.intro hA2 (And.intro hA3 (And.intro hA4 hA5))))
            clear s1 s0 e1 hA1 hA2 hA3 hA4 hA5
            go_wp2_with (at_builtin; refine wpList_append_any _ rfl (.tmp 91) (.tmp 98) _ rfl w5.heap.size 3 i0 _ 1 8 Tryz.underlying72 hi0 hz0 hz1 hz2 rfl (by omega) (.slice A1 n1 c1) n1 _ rfl HA.out.1.one (w7.alloc (.cells #[.int .i64 x.id] 3)).heap.size (some ⟨w7.heap.size, 0, none⟩) 1 1 (intsV [x.id]) rfl HA.out.2.2.1 (intsV_one _) HA.out.2.2.2.1 HA.out.2.2.2.2 HA.out.2.1.size ?_; intro v6 w6 hown6 hg6 hat6)
            have hB6 : Below w5.heap.size w5 w6 := HA.out.2.1.grown hg6 HA.out.2.1.size (fun g hg => (HA.out.1.one.lt g hg).1)
            rw [← intsV_append] at hown6
            have hT6 := HA.out.1.app hown6 hg6 hat6
            obtain ⟨A6, c6, rfl⟩ := own_form hown6
            have H7 := Lib.hid (And.intro hT6 hB6)
            clear hown6 hB6 hg6 hat6 hT6 HA
            go_roundw
            case rel => exact ⟨k + 1, by omega, by go_num, A6, n1 + 1, c6, A2, n2, c2, rfl, rfl, by rw [HS1.out, HS0.out]; exact H7.out.1, H7.out.2⟩
            case measure => simp [intOf]; omega
          by_cases e0 : s = 0
          · have HS1 : Hid (covI 1 m q (p.parcels.take (k + 1)) = covI 1 m q (p.parcels.take k)) := by show _ = _; rw [s1, if_neg (by omega), List.append_nil]
            have HS0 : Hid (covI 0 m q (p.parcels.take (k + 1)) = covI 0 m q (p.parcels.take k) ++ [x.id]) := by show _ = _; rw [s0, if_pos e0]
            have b1 : (s == 1) = false := by simp [e1]
            have b0 : (s == 0) = true := by simp [e0]
            have hA1 := H6.out.1.on ((Below.refl w7.heap.size w7).alloc (Nat.le_refl _) (.cells #[.int .i64 x.id] 3))
            have hA2 := H6.out.2.1.alloc H6.out.2.1.size (.cells #[.int .i64 x.id] 3)
            have hA3 := Reads.made w7 #[.int .i64 x.id] 3 (0, 0) 1 1 (intsV [x.id]) rfl rfl
            have hA4 : n2 + 1 ≤ maxLen := by simp only [maxLen]; omega
            have hA5 : (n2 + 1) * 8 ≤ 140737488355328 := by omega
            have HA := Lib.hid (And.intro hA1 (And.intro hA2 (And.intro hA3 (And.intro hA4 hA5))))
            clear s1 s0 e1 e0 hA1 hA2 hA3 hA4 hA5
            go_wp2_with (at_builtin; refine wpList_append_any _ rfl (.tmp 102) (.tmp 109) _ rfl w5.heap.size 3 i0 _ 1 8 Tryz.underlying72 hi0 hz0 hz1 hz2 rfl (by omega) (.slice A2 n2 c2) n2 _ rfl HA.out.1.swap.one (w7.alloc (.cells #[.int .i64 x.id] 3)).heap.size (some ⟨w7.heap.size, 0, none⟩) 1 1 (intsV [x.id]) rfl HA.out.2.2.1 (intsV_one _) HA.out.2.2.2.1 HA.out.2.2.2.2 HA.out.2.1.size ?_; intro v6 w6 hown6 hg6 hat6)
            have hB6 : Below w5.heap.size w5 w6 := HA.out.2.1.grown hg6 HA.out.2.1.size (fun g hg => (HA.out.1.swap.one.lt g hg).1)
            rw [← intsV_append] at hown6
            have hT6 := HA.out.1.swap.app hown6 hg6 hat6
            obtain ⟨A6, c6, rfl⟩ := own_form hown6
            have H7 := Lib.hid (And.intro hT6 hB6)
            clear hown6 hB6 hg6 hat6 hT6 HA
            go_roundw
            case rel => exact ⟨k + 1, by omega, by go_num, A1, n1, c1, A6, n2 + 1, c6, rfl, rfl, by rw [HS1.out, HS0.out]; exact H7.out.1.swap, H7.out.2⟩
            case measure => simp [intOf]; omega
          · have HS1 : Hid (covI 1 m q (p.parcels.take (k + 1)) = covI 1 m q (p.parcels.take k)) := by show _ = _; rw [s1, if_neg e1, List.append_nil]
            have HS0 : Hid (covI 0 m q (p.parcels.take (k + 1)) = covI 0 m q (p.parcels.take k)) := by show _ = _; rw [s0, if_neg e0, List.append_nil]
            have b1 : (s == 1) = false := by simp [e1]
            have b0 : (s == 0) = false := by simp [e0]
            clear s1 s0 e1 e0 q1 q2 f1
            go_wp2_with fail
            go_roundw
            case rel => exact ⟨k + 1, by omega, by go_num, A1, n1, c1, A2, n2, c2, rfl, rfl, by rw [HS1.out, HS0.out]; exact H6.out.1, H6.out.2.1⟩
            case measure => simp [intOf]; omega
        · have hkn : k = n' := by omega
          subst hkn
          have htk : p.parcels.take k = p.parcels := List.take_of_length_le (by have := HL.out; omega)
          rw [htk] at hT
          have hT1 := Reads.of_own hT.one
          have hT2 := Reads.of_own hT.two
          have HT := Lib.hid (And.intro hT1 (And.intro hT2 (And.intro hbel (And.intro (covL_ok HE.out.symm 1) (covL_ok HE.out.symm 0)))))
          clear hT hT1 hT2 hbel htk hK hPK
          go_wp2_with fail
          refine (sameInts_any _ _ A5 A1 n5 c5 n1 c1 wr (HR.out.1 _ HT.out.2.2.1) HT.out.1 (by have := HR.out.2.2.1; omega)).mono ?_
          rintro e w8 ⟨rfl, hb8⟩
          rw [decide_eq_true HT.out.2.2.2.1]
          have hb8d := hb8
          have HB8 := Lib.hid hb8
          clear hb8 hb8d
          go_wp2_with fail
          refine (sameInts_any _ _ A6 A2 n6 c6 n2 c2 w8 (HR.out.2.1 _ (below_on (HT.out.2.2.1) (Nat.le_refl _) HB8.out)) (HT.out.2.1.on HB8.out) (by have := HR.out.2.2.2; omega)).mono ?_
          rintro e w9 ⟨rfl, hb9⟩
          rw [decide_eq_true HT.out.2.2.2.2]
          have HB9 := Lib.hid (below_on (below_on (H5.out.1.trans ((HT.out.2.2.1).mono H5.out.1.size)) (Nat.le_refl _) HB8.out) (Nat.le_refl _) hb9)
          clear hb9 HB8
          go_wp2_with fail
          go_ret
          exact ⟨rfl, HB9.out⟩
    · have e0 : (ce == 0) = false := by simp [h0]
      go_wp2_with fail
      go_loopw [13, 14, 15] (fun s13 s14 i wr => s13 = .slice none 0 0 ∧ s14 = .slice none 0 0 ∧ i = .int .i64 0 ∧ w5 = wr) (fun _ _ _ _ => 0)
      case atStart => exact ⟨rfl, rfl, rfl, rfl⟩
      case round =>
        obtain ⟨rfl, rfl, rfl, rfl⟩ := hrel
        have HT := Lib.hid (And.intro (covL_no (fun h => h0 (HE.out.trans h)) 1) (covL_no (fun h => h0 (HE.out.trans h)) 0))
        go_wp2_with fail
        refine (sameInts_any _ _ A5 none n5 c5 0 0 w5 (HR.out.1 _ (Below.refl w5.heap.size w5)) (show Reads w5 w5.heap.size 1 none 0 (intsV []) from Reads.none_) (by have := HR.out.2.2.1; omega)).mono ?_
        rintro e w8 ⟨rfl, hb8⟩
        rw [decide_eq_true HT.out.1]
        have hb8d := hb8
        have HB8 := Lib.hid hb8
        clear hb8 hb8d
        go_wp2_with fail
        refine (sameInts_any _ _ A6 none n6 c6 0 0 w8 (HR.out.2.1 _ (below_on ((Below.refl w5.heap.size w5)) (Nat.le_refl _) HB8.out)) ((show Reads w5 w5.heap.size 1 none 0 (intsV []) from Reads.none_).on HB8.out) (by have := HR.out.2.2.2; omega)).mono ?_
        rintro e w9 ⟨rfl, hb9⟩
        rw [decide_eq_true HT.out.2]
        have HB9 := Lib.hid (below_on (below_on (H5.out.1.trans (((Below.refl w5.heap.size w5)).mono H5.out.1.size)) (Nat.le_refl _) HB8.out) (Nat.le_refl _) hb9)
        clear hb9 HB8
        go_wp2_with fail
        go_ret
        exact ⟨rfl, HB9.out⟩
end Go.Proofs.YtglnklfhgdjccaaGreat

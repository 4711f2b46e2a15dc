/- slices.Equal, plan.normed, the document's normed, and slices.ContainsFunc of them: the walks; slices.Clone of rings, ring.Norm with the room of its answer: the walks. -/
import Derived.Deep.DeepCutAuto
import Derived.Laws.IdiomStrings
import Derived.Test.YtmegmokjjlelgaaGreatK07
import Derived.Test.YtmegmokjjlelgaaGreatK08
import Derived.Test.YtmegmokjjlelgaaGreatK12
import Derived.Test.YtmegmokjjlelgaaGreatK14
namespace Go.Proofs.YtmegmokjjlelgaaGreat
open Go.RowKit
open Classical in
noncomputable def normB (xs : List Pt) : Bool := decide (NormedP xs)
set_option maxHeartbeats 800000 in
theorem equalPt_any (xs ys : List Pt) (A B : Option Addr) (n m ca cb : Nat) (w : World) (hr : Reads w w.heap.size 2 A n (ptsV xs)) (hs : Reads w w.heap.size 2 B m (ptsV ys)) (hn : n ≤ 9223372036854775807) (hm : m ≤ 9223372036854775807) :
    Calls Tryz.prog 153 #[.slice A n ca, .slice B m cb] w fun e w' => e = .returned (.bool (decide (xs = ys))) ∧ Below w.heap.size w w' := by
  have HL := Lib.hid (And.intro hr.lenPt hs.lenPt)
  by_cases hnm : n = m
  case neg =>
    have hf : Hid (decide (xs = ys) = false) := by
      apply decide_eq_false
      rintro rfl
      have := HL.out
      omega
    have hb : ((n : Int) != (m : Int)) = true := by simp; omega
    clear hnm
    go_enter Tryz.func153, Tryz.ntmps153
    go_wp2
    go_ret
    exact ⟨by rw [hf.out]; rfl, Below.refl _ _⟩
  subst hnm
  go_enter Tryz.func153, Tryz.ntmps153
  go_wp2
  go_loopw [13] (fun i wr => ∃ k : Nat, k ≤ n ∧ Hid (xs.take k = ys.take k) ∧ i = .int .i64 (k : Int) ∧ Below w.heap.size w wr) (fun i _ => n - (intOf i).toNat)
  case atStart => exact ⟨0, Nat.zero_le _, rfl, rfl, Below.refl _ _⟩
  case round =>
    obtain ⟨k, hk, hg, rfl, hbel⟩ := hrel
    by_cases hlt : k < n
    · have hw1 : IntKind.i64.wrap ((k : Int) + 1) = (k : Int) + 1 := by rw [IntKind.wrap_i64]; omega
      have hlt' : (k : Int) < (n : Int) := by omega
      obtain ⟨ad, rfl, hb, hkl, hcx, hcy⟩ := (hr.below hbel).pt hlt
      obtain ⟨bd, rfl, hb', hkl', hdx, hdy⟩ := (hs.below hbel).pt hlt
      have HE1 := Lib.hid (take_same hg.out hkl hkl')
      have HE2 := Lib.hid (not_same hkl hkl')
      obtain ⟨⟨x, y⟩, hp⟩ : ∃ p, p = xs[k] := ⟨_, rfl⟩
      obtain ⟨⟨x', y'⟩, hq⟩ : ∃ p, p = ys[k] := ⟨_, rfl⟩
      rw [← hp] at hcx hcy
      rw [← hq] at hdx hdy
      have HP := Lib.hid (And.intro hp hq)
      simp only at hcx hcy hdx hdy
      clear hp hq hr hs
      by_cases hx : x = x'
      · by_cases hy : y = y'
        · subst hx hy
          have HE := Lib.hid (HE1.out (HP.out.1.symm.trans HP.out.2))
          clear HE1 HE2 HP
          go_wp2
          go_quiet (fail)
          go_wp2
          go_roundw
          case rel => exact ⟨k + 1, by omega, HE, by go_num, below_drewN hbel _⟩
          case measure => simp [intOf]; omega
        · have HE := Lib.hid (HE2.out (by rw [← HP.out.1, ← HP.out.2]; simp [hy]))
          subst hx
          have hy' : (y != y') = true := by simpa using hy
          clear HE1 HE2 HP
          go_wp2
          go_quiet (fail)
          go_wp2
          go_ret
          exact ⟨by rw [HE.out]; rfl, below_drewN hbel _⟩
      · have HE := Lib.hid (HE2.out (by rw [← HP.out.1, ← HP.out.2]; simp [hx]))
        have hx' : (x != x') = true := by simpa using hx
        clear HE1 HE2 HP
        go_wp2
        go_quiet (fail)
        go_wp2
        go_ret
        exact ⟨by rw [HE.out]; rfl, below_drewN hbel _⟩
    · have hkn : k = n := by omega
      subst hkn
      have HF : Hid (decide (xs = ys) = true) := by
        show _ = _
        rw [decide_eq_true_iff]
        have h1 := hg.out
        have := HL.out
        rw [List.take_of_length_le (by omega), List.take_of_length_le (by omega)] at h1
        exact h1
      have hlt' : ¬ (k : Int) < (k : Int) := by omega
      go_wp2
      go_ret
      exact ⟨by rw [HF.out]; rfl, hbel⟩
set_option maxHeartbeats 800000 in
theorem normed_any (xs : List Pt) (A : Option Addr) (n cap : Nat) (w : World) (hr : Reads w w.heap.size 2 A n (ptsV xs)) (hc : n ≤ cap) (hn : n ≤ 8796093022208) (hx : ∀ p ∈ xs, p.inI) :
    Calls Tryz.prog 118 #[.slice A n cap] w fun e w' => e = .returned (.bool (normB xs)) ∧ Below w.heap.size w w' := by
  have hl : xs.length = n := hr.lenPt
  have hb : normB xs = (decide (checkI xs = 0) && decide (xs = rot (leastN xs n) xs)) := by
    unfold normB NormedP
    rw [hl, Bool.eq_iff_iff]
    simp
  rw [hb]
  clear hb
  have hL : checkI xs = 0 → n ≤ 128 := fun h => by
    obtain ⟨h1, h2, h3, -⟩ := checkI_zero h
    omega
  have kC := Lib.hid (check_any xs A n cap w hr (by omega) hx)
  have HR := Lib.hid (And.intro hr (And.intro hL hc))
  clear hr hL hx hl hc
  generalize checkI xs = e0 at *
  by_cases he : e0 = 0
  · subst he
    rw [decide_eq_true rfl]
    have h128 := HR.out.2.1 rfl
    go_enter Tryz.func118, Tryz.ntmps118
    go_wp2_with fail
    refine kC.out.mono ?_
    rintro e w1 ⟨rfl, hb1⟩
    have kL := Lib.hid (leastP_any xs A n cap w1 (HR.out.1.on hb1) HR.out.2.2 (by omega))
    have HB := Lib.hid hb1
    clear hb1 kC
    go_wp2_with fail
    refine kL.out.mono ?_
    rintro e w2 ⟨A', c', rfl, ho, hb2⟩
    have kS := Lib.hid (equalPt_any xs (rot (leastN xs n) xs) A A' n n cap c' w2 ((HR.out.1.on HB.out).on hb2) (Reads.of_own ho) (by omega) (by omega))
    have HB2 := Lib.hid (below_on HB.out (Nat.le_refl _) hb2)
    clear ho hb2 HB kL
    go_wp2_with fail
    refine kS.out.mono ?_
    rintro e w3 ⟨rfl, hb3⟩
    have HB3 := Lib.hid (below_on HB2.out (Nat.le_refl _) hb3)
    clear hb3 HB2 kS
    go_wp2_with fail
    go_ret
    exact ⟨by rw [Bool.true_and]; rfl, HB3.out⟩
  · rw [decide_eq_false he]
    have he' : (e0 == 0) = false := by simpa using he
    go_enter Tryz.func118, Tryz.ntmps118
    go_wp2_with fail
    refine kC.out.mono ?_
    rintro e w1 ⟨rfl, hb1⟩
    have HB := Lib.hid hb1
    clear hb1 kC
    go_wp2_with fail
    go_ret
    exact ⟨rfl, HB.out⟩
set_option maxHeartbeats 800000 in
theorem check1_any (x : Parc) (A : Option Addr) (n c : Nat) (w : World) (hr : Reads w w.heap.size 2 A n (ptsV x.ring)) (hc : n ≤ c) (hf : x.fits) :
    Calls Tryz.prog 120 #[.agg #[.int .i64 x.id, .slice A n c, .string x.owner]] w fun e w' => e = .returned (.bool (!normB x.ring)) ∧ Below w.heap.size w w' := by
  obtain ⟨f1, f2, -, -⟩ := hf
  have hb0 := (Below.refl w.heap.size w).alloc (Nat.le_refl _) (.cells #[.int .i64 x.id, .slice A n c, .string x.owner] 40)
  have hK := PcK.new w x A n c
  have kN := Lib.hid (normed_any x.ring A n c (w.alloc (.cells #[.int .i64 x.id, .slice A n c, .string x.owner] 40)) (hr.on hb0) hc (by have := hr.lenPt; omega) f2)
  have HB := Lib.hid hb0
  obtain ⟨q1, q2, q3, -⟩ := hK.facts
  clear hb0 hr f2 hK
  generalize normB x.ring = b at *
  go_enter Tryz.func120, Tryz.ntmps120
  go_wp2_with fail
  refine kN.out.mono ?_
  rintro e w1 ⟨rfl, hb1⟩
  have HB2 := Lib.hid (below_on HB.out (Nat.le_refl _) hb1)
  clear hb1 HB kN
  go_wp2_with fail
  go_ret
  exact ⟨rfl, HB2.out⟩
set_option maxHeartbeats 1600000 in
theorem indexC1_any (ps : List Parc) (A : Option Addr) (n cap : Nat) (w : World) (hr : PIn w w.heap.size A n ps) (hn : n ≤ 8796093022208) (hK : ∀ x ∈ ps, x.fits) :
    Calls Tryz.prog 106 #[.slice A n cap, .func (.func 120) #[] #[]] w fun e w' => ∃ i : Int, e = .returned (.int .i64 i) ∧ ((i = -1 ∧ ∀ k, k < n → (fun x => !normB x.ring) (pcAt ps k) = false) ∨ ∃ k : Nat, k < n ∧ i = (k : Int) ∧ (fun x => !normB x.ring) (pcAt ps k) = true ∧ ∀ j, j < k → (fun x => !normB x.ring) (pcAt ps j) = false) ∧ Below w.heap.size w w' := by
  have HR := Lib.hid (And.intro hr hK)
  clear hr hK
  go_enter Tryz.func106, Tryz.ntmps106
  go_wp2_with fail
  go_loopw [8] (fun i wr => ∃ k : Nat, k ≤ n ∧ i = .int .i64 (k : Int) ∧ Hid (∀ j, j < k → (fun x => !normB x.ring) (pcAt ps j) = false) ∧ Below w.heap.size w wr) (fun i _ => n - (intOf i).toNat)
  case atStart => exact ⟨0, Nat.zero_le _, rfl, fun j hj => absurd hj (Nat.not_lt_zero _), Below.refl _ _⟩
  case round =>
    obtain ⟨k, hk, rfl, HA, hbel⟩ := hrel
    by_cases hlt : k < n
    · have hlt' : (k : Int) < (n : Int) := by omega
      have hw1 : IntKind.i64.wrap ((k : Int) + 1) = (k : Int) + 1 := by rw [IntKind.wrap_i64]; omega
      obtain ⟨ad, rfl⟩ := HR.out.1.some_ (by omega)
      obtain ⟨-, p1, ⟨Ak, nk, ck, p2, hrk, hk1, hk2⟩, p3⟩ := (HR.out.1.below hbel).at_ hlt
      have kF : Calls Tryz.prog 120 #[.agg #[.int .i64 (pcAt ps k).id, .slice Ak nk ck, .string (pcAt ps k).owner]] wr fun e w' => e = .returned (.bool ((fun x => !normB x.ring) (pcAt ps k))) ∧ Below wr.heap.size wr w' := check1_any (pcAt ps k) Ak nk ck wr (hrk.more hbel.size) hk1 (by rw [pcAt_lt (by have := HR.out.1.1; omega)]; exact HR.out.2 _ (List.getElem_mem _))
      obtain ⟨x, hx⟩ : ∃ x, x = pcAt ps k := ⟨_, rfl⟩
      rw [← hx] at p1 p3 kF
      have HX := Lib.hid hx
      have HB := Lib.hid hbel
      clear hx hbel hrk
      obtain ⟨b, hb⟩ : ∃ b, b = (fun x => !normB x.ring) x := ⟨_, rfl⟩
      rw [← hb] at kF
      have HBB := Lib.hid hb
      clear hb
      rcases b with _ | _
      · go_wp2_with (go_at_call 120; (with_reducible refine kF.mono ?_); rintro e w' ⟨rfl, hb'⟩)
        go_roundw
        case rel =>
          refine ⟨k + 1, by omega, by go_num, (fun j hj => ?_ : ∀ j, j < k + 1 → _), below_on HB.out (Nat.le_refl _) (by assumption)⟩
          by_cases e : j = k
          · rw [e, ← HX.out]; exact HBB.out.symm
          · exact HA.out j (by omega)
        case measure => simp [intOf]; omega
      · go_wp2_with (go_at_call 120; (with_reducible refine kF.mono ?_); rintro e w' ⟨rfl, hb'⟩)
        go_ret
        exact ⟨k, rfl, .inr ⟨k, hlt, rfl, by rw [← HX.out]; exact HBB.out.symm, HA.out⟩, below_on HB.out (Nat.le_refl _) (by assumption)⟩
    · have hkn : k = n := by omega
      subst hkn
      have HB := Lib.hid hbel
      clear hbel
      go_wp2_with fail
      go_ret
      exact ⟨-1, rfl, .inl ⟨rfl, fun j hj => by have := HA.out j hj; simpa using this⟩, HB.out⟩
theorem containsC1_any (ps : List Parc) (A : Option Addr) (n cap : Nat) (w : World) (hr : PIn w w.heap.size A n ps) (hn : n ≤ 8796093022208) (hK : ∀ x ∈ ps, x.fits) :
    Calls Tryz.prog 119 #[.slice A n cap, .func (.func 120) #[] #[]] w fun e w' => e = .returned (.bool (ps.any (fun x => !normB x.ring))) ∧ Below w.heap.size w w' := by
  have hl := hr.1
  have kI := Lib.hid (indexC1_any ps A n cap w hr hn hK)
  clear hr hK
  go_enter Tryz.func119, Tryz.ntmps119
  go_wp2_with fail
  refine kI.out.mono ?_
  rintro e w1 ⟨i, rfl, hi, hb⟩
  have hany : Hid (ps.any (fun x => !normB x.ring) = decide (0 ≤ i)) := by
    show _ = _
    rcases hi with ⟨rfl, h⟩ | ⟨k, hk, rfl, h, -⟩
    · rw [decide_eq_false (by omega), List.any_eq_false]
      intro x hx
      obtain ⟨k, hk, rfl⟩ := List.getElem_of_mem hx
      have := h k (by omega)
      rw [pcAt_lt hk] at this
      rw [this]; decide
    · rw [decide_eq_true (by omega), List.any_eq_true]
      exact ⟨ps[k]'(by omega), List.getElem_mem _, by rw [pcAt_lt (by omega)] at h; exact h⟩
  have HB := Lib.hid hb
  clear hb hi kI
  go_wp2_with fail
  go_ret
  exact ⟨by rw [hany.out]; rfl, HB.out⟩
end Go.Proofs.YtmegmokjjlelgaaGreat
namespace Go.Proofs.YtmegmokjjlelgaaGreat
open Go.RowKit
end Go.Proofs.YtmegmokjjlelgaaGreat
namespace Go.Proofs.YtmegmokjjlelgaaGreat
theorem cornN_eq (n : Nat) (ps : List Parc) : cornN n ps = n + (allE ps).length := by
  induction ps generalizing n with
  | nil => rfl
  | cons x r ih =>
    rw [cornN_cons, ih]
    unfold allE
    rw [List.flatMap_cons, List.length_append, edgesOf_len]
    omega
theorem listed_bd {p : Plan} (h : listedB p = true) : 1 ≤ p.parcels.length ∧ p.parcels.length ≤ 64 ∧ p.outer.length + (allE p.parcels).length ≤ 1024 := by
  unfold listedB at h
  rw [Bool.and_eq_true, Bool.and_eq_true, Bool.and_eq_true, decide_eq_true_eq, decide_eq_true_eq, decide_eq_true_eq, cornN_eq] at h
  omega
theorem normB_iff {xs : List Pt} : normB xs = true ↔ NormedP xs := by unfold normB; simp
theorem matchB_iff {p : Plan} : matchB p = true ↔ MatchP p := by unfold matchB; simp
theorem goodL_mem {xs : List Pt} (h : goodL xs = true) {p : Pt} (hp : p ∈ xs) : good p = true := by
  unfold goodL at h
  exact List.all_eq_true.1 h p hp
theorem edges_ok {xs : List Pt} (h : checkI xs = 0) : ∀ e ∈ edgesOf xs, e.a ≠ e.b ∧ (good e.a = true ∧ good e.b = true) := by
  obtain ⟨-, h1, h2, -, h3⟩ := checkI_zero h
  have hn := pairs_nodup h3
  intro e he
  unfold edgesOf at he
  rw [List.mem_map] at he
  obtain ⟨k, hk, rfl⟩ := he
  rw [List.mem_range] at hk
  have hk2 : (k + 1) % xs.length < xs.length := Nat.mod_lt _ (by omega)
  simp only
  rw [ptAt_lt hk, ptAt_lt hk2]
  refine ⟨fun h' => ?_, goodL_mem h1 (List.getElem_mem _), goodL_mem h1 (List.getElem_mem _)⟩
  have hne : k ≠ (k + 1) % xs.length := by
    rcases Nat.lt_or_ge (k + 1) xs.length with h4 | h4
    · rw [Nat.mod_eq_of_lt h4]; omega
    · have h5 : k + 1 = xs.length := by omega
      rw [h5, Nat.mod_self]; omega
  have hp := List.pairwise_iff_getElem.1 hn
  rcases Nat.lt_or_gt_of_ne hne with h4 | h4
  · exact hp _ _ hk hk2 h4 h'
  · exact hp _ _ hk2 hk h4 h'.symm
theorem allE_mem {ps : List Parc} {e : Ed} : e ∈ allE ps ↔ ∃ x ∈ ps, e ∈ edgesOf x.ring := by unfold allE; rw [List.mem_flatMap]
/-- What plan.clean wants of a plan. -/
def PreC (p : Plan) : Prop := (2 ≤ (allE p.parcels).length ∧ (allE p.parcels).length ≤ 1048576) ∧ (∀ e ∈ allE p.parcels, e.a ≠ e.b) ∧ (∀ e ∈ allE p.parcels, good e.a = true ∧ good e.b = true) ∧ (allE p.parcels).Nodup
theorem pre_of {p : Plan} (h1 : listedB p = true) (h3 : ∀ x ∈ p.parcels, NormedP x.ring) (h4 : MatchP p) : PreC p := by
  obtain ⟨b1, b2, b3⟩ := listed_bd h1
  have hE : ∀ e ∈ allE p.parcels, e.a ≠ e.b ∧ (good e.a = true ∧ good e.b = true) := fun e he => by
    obtain ⟨x, hx, hm⟩ := allE_mem.1 he
    exact edges_ok (h3 x hx).1 e hm
  refine ⟨⟨?_, by omega⟩, fun e he => (hE e he).1, fun e he => (hE e he).2, h4.1⟩
  rcases hp : p.parcels with _ | ⟨x, r⟩
  · rw [hp] at b1; simp at b1
  · have := (checkI_zero (h3 x (by rw [hp]; simp)).1).2.2.1
    unfold allE
    rw [List.flatMap_cons, List.length_append, edgesOf_len]
    omega
theorem areas_of {p : Plan} (h2 : NormedP p.outer) (h3 : ∀ x ∈ p.parcels, NormedP x.ring) : areaE p.outer = 0 ∧ ∀ x ∈ p.parcels, areaE x.ring = 0 := by
  have hz : ∀ xs, checkI xs = 0 → areaE xs = 0 := fun xs h => by
    apply Classical.byContradiction
    intro h'
    exact h' (by rw [← checkI_err h']; exact h)
  exact ⟨hz _ h2.1, fun x hx => hz _ (h3 x hx).1⟩
theorem planE_ok {p : Plan} (h : SoundP p) : planE p = 0 := by
  unfold planE planB
  simp [h]
theorem planE_no {p : Plan} (h : ¬ SoundP p) : planE p = 2 := by
  unfold planE planB
  simp [h]
theorem any_norm {p : Plan} : (p.parcels.any fun x => !normB x.ring) = false ↔ ∀ x ∈ p.parcels, NormedP x.ring := by
  rw [List.any_eq_false]
  constructor
  · intro h x hx
    have := h x hx
    rw [Bool.not_eq_true', Bool.not_eq_false] at this
    exact normB_iff.1 this
  · intro h x hx
    rw [normB_iff.2 (h x hx)]
    decide
theorem planE_eq (p : Plan) (b5 : Bool) (h5 : b5 = true ↔ PairsE (allE p.parcels)) :
    planE p = if listedB p = true ∧ normB p.outer = true ∧ (p.parcels.any fun x => !normB x.ring) = false ∧ matchB p = true ∧ b5 = true ∧ decide (areasL p.parcels = areaZ p.outer) = true then 0 else 2 := by
  have hs : SoundP p ↔ listedB p = true ∧ normB p.outer = true ∧ (p.parcels.any fun x => !normB x.ring) = false ∧ matchB p = true ∧ b5 = true ∧ decide (areasL p.parcels = areaZ p.outer) = true := by
    rw [normB_iff, matchB_iff, h5, decide_eq_true_eq, any_norm]
    exact Iff.rfl
  by_cases h : SoundP p
  · rw [planE_ok h, if_pos (hs.1 h)]
  · rw [planE_no h, if_neg (fun h' => h (hs.2 h'))]
end Go.Proofs.YtmegmokjjlelgaaGreat
namespace Go.Proofs.YtmegmokjjlelgaaGreat
open Go.RowKit
theorem rot_mem {k : Nat} {xs : List Pt} {p : Pt} (h : p ∈ rot k xs) : p ∈ xs := by
  unfold rot at h
  rcases List.mem_append.1 h with h | h
  · exact List.mem_of_mem_drop h
  · exact List.mem_of_mem_take h
theorem pIn_one {W : World} {B g n c : Nat} {A : Option Addr} {x : Parc} (hb : Blk W g 40 #[.int .i64 x.id, .slice A n c, .string x.owner]) (hr : Reads W B 2 A n (ptsV x.ring)) (h1 : n ≤ c) (h2 : c ≤ 9223372036854775807) (hg : g < B) : PIn W B (some ⟨g, 0, none⟩) 1 [x] := by
  refine ⟨rfl, fun _ => ⟨_, rfl, hg, fun k hk => ?_⟩⟩
  obtain rfl : k = 0 := by omega
  simp only [add_row]
  exact ⟨by rw [Blk.cell hb]; rfl, ⟨A, n, c, by rw [Blk.cell hb]; rfl, hr, h1, h2⟩, by rw [Blk.cell hb]; rfl⟩
end Go.Proofs.YtmegmokjjlelgaaGreat

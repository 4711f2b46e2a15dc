/- What lies beside Begin. -/
import Derived.Test.YtgkcenhopmjmlaaGreatOwned
import Derived.Test.YtgkcenhopmjmlaaGreatBegin
namespace Go.Proofs.YtgkcenhopmjmlaaGreat
open Go.RowKit
theorem Reads.farA {W : World} {B n size : Nat} {A : Option Addr} {xs : List Value} (h : Reads W B size A n xs) {q : Addr} (hq : ∀ ad, A = some ad → ad.block ≠ q.block) (u : Value) : Reads (W.setCell q u) B size A n xs := by
  refine ⟨h.1, fun h0 => ?_⟩
  obtain ⟨ad, rfl, hb, hc⟩ := h.2 h0
  refine ⟨_, rfl, hb, fun j v hv => Eq.trans ?_ (hc j v hv)⟩
  have hne : ad.add j ≠ q := fun e => hq ad rfl (by have := congrArg Addr.block e; rw [block_of_add] at this; exact this)
  first
    | exact World.cell?_setCell_other _ _ _ _ hne
    | exact World.cell?_setCell_other _ _ _ _ hne.symm
    | exact World.cell?_setCell_other hne
    | exact World.cell?_setCell_other hne.symm
theorem own_base {w : World} {base n c : Nat} {e : TypeId} {size : Nat} {A : Option Addr} {xs : List Value} (h : w.ownsRow base e size (.slice A n c) n xs) : ∀ ad, A = some ad → base ≤ ad.block := fun ad h' => by
  subst h'
  rcases h.2 with ⟨h1, -⟩ | ⟨g, cap, cur, h1, h2, -⟩
  · cases h1
  · cases h1; exact h2
set_option maxHeartbeats 800000 in
theorem norm2_any (xs : List Pt) (A : Option Addr) (n cap : Nat) (w : World) (hr : Reads w w.heap.size 2 A n (ptsV xs)) (hc : n ≤ cap) (hn : n ≤ 9223372036854775807) (hx : ∀ p ∈ xs, p.inI) (hL : checkI xs = 0 → n ≤ 1048576) :
    Calls Tryz.prog 132 #[.slice A n cap] w fun e w' => ∃ A' c m, e = .returned (.tuple #[.slice A' m c, .int .i64 (checkI xs)]) ∧ (Reads w' w'.heap.size 2 A' m (ptsV (if checkI xs = 0 then rot (leastN xs n) xs else [])) ∧ (m ≤ c ∧ c ≤ 9223372036854775807) ∧ ∀ ad, A' = some ad → w.heap.size ≤ ad.block) ∧ Below w.heap.size w w' := by
  have kC := Lib.hid (check_any xs A n cap w hr (by omega) hx)
  have HR := Lib.hid hr
  have HL := Lib.hid hL
  clear hr hL
  generalize checkI xs = e0 at *
  go_enter Tryz.func132, Tryz.ntmps132
  go_wp2_with fail
  refine kC.out.mono ?_
  rintro e w1 ⟨rfl, hb1⟩
  clear kC
  by_cases he : e0 = 0
  · subst he
    have kL := Lib.hid (leastP_any xs A n cap w1 (HR.out.on hb1) hc (HL.out rfl))
    have HB := Lib.hid hb1
    clear hb1
    go_wp2_with fail
    refine kL.out.mono ?_
    rintro e w2 ⟨A', c', rfl, ho, hb⟩
    have HF := Lib.hid (And.intro (And.intro (Reads.of_own ho) (And.intro (own_cap ho) (fun ad h => Nat.le_trans HB.out.size (own_base ho ad h)))) (below_on HB.out (Nat.le_refl _) hb))
    clear ho hb HB
    go_wp2_with fail
    exact bodyPost_ret (v := .tuple #[.slice A' n c', .int .i64 0]) (by simp [results, Tryz.results132, go_sem]) rfl ⟨A', c', n, rfl, HF.out⟩
  · have he' : (e0 != 0) = true := by simpa using he
    have HB := Lib.hid hb1
    clear hb1
    go_wp2_with fail
    exact bodyPost_ret (v := .tuple #[.slice none 0 0, .int .i64 e0]) (by simp [results, Tryz.results132, go_sem]) rfl ⟨none, 0, 0, rfl, ⟨Reads.none_, ⟨Nat.le_refl _, by omega⟩, fun ad h => by cases h⟩, HB.out⟩
end Go.Proofs.YtgkcenhopmjmlaaGreat
namespace Go.Proofs.YtgkcenhopmjmlaaGreat
end Go.Proofs.YtgkcenhopmjmlaaGreat
namespace Go.Proofs.YtgkcenhopmjmlaaGreat
open Go.RowKit
open Classical in
noncomputable def beginE (xs : List Pt) (id : Int) (s : ByteArray) : Int := if checkI xs = 0 then (if idB id && ownB s then 0 else 1) else checkI xs
open Classical in
noncomputable def beginP (xs : List Pt) (id : Int) (s : ByteArray) : Plan := if beginE xs id s = 0 then ⟨rot (leastN xs xs.length) xs, [⟨id, rot (leastN xs xs.length) xs, s⟩]⟩ else ⟨[], []⟩
theorem planAt_nil (W : World) : PlanAt W W.heap.size none 0 0 none 0 0 ⟨[], []⟩ := ⟨Reads.none_, ⟨rfl, fun h => absurd h (Nat.lt_irrefl _)⟩, ⟨Nat.le_refl _, by omega⟩, ⟨Nat.le_refl _, by omega⟩, ⟨⟨by simp, by simp⟩, by simp, by simp⟩⟩
def BeginPost (xs : List Pt) (id : Int) (s : ByteArray) (w : World) (e : Ending) (w' : World) : Prop := ∃ A n c A' n' c', e = .returned (.tuple #[planV A n c A' n' c', .int .i64 (beginE xs id s)]) ∧ PlanAt w' w'.heap.size A n c A' n' c' (beginP xs id s) ∧ Below w.heap.size w w'
set_option maxRecDepth 100000 in
set_option maxHeartbeats 1600000 in
theorem begin_any (xs : List Pt) (A : Option Addr) (n cap : Nat) (id : Int) (s : ByteArray) (w : World) (hr : Reads w w.heap.size 2 A n (ptsV xs)) (hc : n ≤ cap) (hn : n ≤ 8796093022208) (hx : ∀ p ∈ xs, p.inI) (hi : inI id) (hs : s.size ≤ 9223372036854775807) :
    Calls Tryz.prog 80 #[.slice A n cap, .int .i64 id, .string s] w (BeginPost xs id s w) := by
  have hl := hr.lenPt
  have hB0 := (Below.refl w.heap.size w).alloc (Nat.le_refl _) (.cells #[.slice none 0 0, .slice none 0 0] 26)
  have hK0 := PlK.new w none 0 0 none 0 0
  have kN := norm2_any xs A n cap _ (hr.on hB0) hc (by omega) hx (fun h => by have := (checkI_zero h).1; omega)
  have HE : Hid (beginE xs id s = if checkI xs = 0 then (if idB id && ownB s then 0 else 1) else checkI xs) := rfl
  have HPd : Hid (beginP xs id s = if beginE xs id s = 0 then ⟨rot (leastN xs n) xs, [⟨id, rot (leastN xs n) xs, s⟩]⟩ else ⟨[], []⟩) := by show _ = _; rw [← hl]; rfl
  have HRL : Hid (checkI xs = 0 → n ≤ 128) := fun h => by have := (checkI_zero h).1; omega
  have HX : Hid (∀ p ∈ rot (leastN xs n) xs, p.inI) := fun p hp => hx p (rot_mem hp)
  have HLR : Hid (n ≠ 0 → (rot (leastN xs n) xs).length = n) := fun h0 => by rw [rot_len (by have := leastN_lt xs (m := n) (by omega); omega), hl]
  have kI := fun V => idP_any id V
  have kO := fun V => owned_any s V
  have H0 := Lib.hid (And.intro hB0 hK0)
  have KN := Lib.hid kN
  have HLL := Lib.hid hl
  clear hB0 hK0 kN hr hx hl hc
  go_enter Tryz.func80, Tryz.ntmps80
  go_wp2_with fail
  refine KN.out.mono ?_
  rintro e w1 ⟨A1, c1, m, rfl, ⟨hr1, hmc, hA1⟩, hb1⟩
  have hK1 := Blk.below H0.out.2 hb1 (Blk.lt H0.out.2)
  have hB1 := below_on H0.out.1 (Nat.le_refl _) hb1
  have f1 := Blk.frozen hK1 0
  have f2 := Blk.frozen hK1 1
  have c1' := Blk.cell hK1 0
  have c2' := Blk.cell hK1 1
  have q1 : w1.cell? ⟨w.heap.size, 0, none⟩ = some (.slice none 0 0) := c1'
  have q2 : w1.cell? ⟨w.heap.size, 1, none⟩ = some (.slice none 0 0) := c2'
  have H1 := Lib.hid (And.intro hB1 (And.intro hK1 (And.intro hr1 (And.intro hmc hA1))))
  clear hB1 hK1 hr1 hb1 KN H0 c1' c2' hmc hA1
  generalize checkI xs = e0 at *
  have HFail : ∀ W, Below w.heap.size w W → ∀ v, beginE xs id s = v → v ≠ 0 → BeginPost xs id s w (.returned (.tuple #[planV none 0 0 none 0 0, .int .i64 v])) W := fun W hW v hv h0 => ⟨none, 0, 0, none, 0, 0, by rw [hv], by rw [HPd.out, if_neg (by rw [hv]; exact h0)]; exact planAt_nil W, hW⟩
  have HFL := Lib.hid HFail
  clear HFail
  by_cases h0 : e0 = 0
  · subst h0
    rw [if_pos rfl] at HE
    generalize ownB s = b2 at *
    generalize idB id = b1 at *
    rcases b1 with _ | _
    · have hv : Hid (beginE xs id s = 1) := by show _ = _; rw [HE.out]; rfl
      go_wp2_with (go_at_call 118; (with_reducible refine (kI _).mono ?_); rintro e w' ⟨rfl, rfl⟩)
      have hB2 := (H1.out.1.setCell (p := ⟨w.heap.size, 0, none⟩) (Nat.le_refl _) (.slice none 0 0)).setCell (p := ⟨w.heap.size, 1, none⟩) (Nat.le_refl _) (.slice none 0 0)
      have hK2 := Blk.set_ (Blk.set_ H1.out.2.1 0 (.slice none 0 0)) 1 (.slice none 0 0)
      generalize (w1.setCell ⟨w.heap.size, 0, none⟩ (.slice none 0 0)).setCell ⟨w.heap.size, 1, none⟩ (.slice none 0 0) = V at *
      have r1 : V.cell? ⟨w.heap.size, 0, none⟩ = some (.slice none 0 0) := by rw [Blk.cell hK2]; rfl
      have r2 : V.cell? ⟨w.heap.size, 1, none⟩ = some (.slice none 0 0) := by rw [Blk.cell hK2]; rfl
      refine bodyPost_ret (v := .tuple #[planV none 0 0 none 0 0, .int .i64 1]) ?_ rfl (HFL.out _ hB2 _ hv.out (by decide))
      simp [results, Tryz.results80, go_sem, r1, r2]
    · rcases b2 with _ | _
      · have hv : Hid (beginE xs id s = 1) := by show _ = _; rw [HE.out]; rfl
        clear q1 q2 f1 f2
        go_wp2_with (first
          | (go_at_call 118; (with_reducible refine (kI _).mono ?_); rintro e w' ⟨rfl, rfl⟩)
          | (go_at_call 133; (with_reducible refine (kO _).mono ?_); rintro e w2 ⟨rfl, hb'⟩; have hK3 := Blk.below H1.out.2.1 hb' (Blk.lt H1.out.2.1); have q1 : w2.cell? ⟨w.heap.size, 0, none⟩ = some (.slice none 0 0) := (by rw [Blk.cell hK3]; rfl); have q2 : w2.cell? ⟨w.heap.size, 1, none⟩ = some (.slice none 0 0) := (by rw [Blk.cell hK3]; rfl); have f1 := Blk.frozen hK3 0; have f2 := Blk.frozen hK3 1; have HB2 := Lib.hid (below_on H1.out.1 (Nat.le_refl _) hb'); clear hb'))
        have hB2 := (HB2.out.setCell (p := ⟨w.heap.size, 0, none⟩) (Nat.le_refl _) (.slice none 0 0)).setCell (p := ⟨w.heap.size, 1, none⟩) (Nat.le_refl _) (.slice none 0 0)
        have hK2 := Blk.set_ (Blk.set_ hK3 0 (.slice none 0 0)) 1 (.slice none 0 0)
        generalize (w2.setCell ⟨w.heap.size, 0, none⟩ (.slice none 0 0)).setCell ⟨w.heap.size, 1, none⟩ (.slice none 0 0) = V at *
        have r1 : V.cell? ⟨w.heap.size, 0, none⟩ = some (.slice none 0 0) := by rw [Blk.cell hK2]; rfl
        have r2 : V.cell? ⟨w.heap.size, 1, none⟩ = some (.slice none 0 0) := by rw [Blk.cell hK2]; rfl
        refine bodyPost_ret (v := .tuple #[planV none 0 0 none 0 0, .int .i64 1]) ?_ rfl (HFL.out _ hB2 _ hv.out (by decide))
        simp [results, Tryz.results80, go_sem, r1, r2]
      · have hv : Hid (beginE xs id s = 0) := by show _ = _; rw [HE.out]; rfl
        clear q1 q2 f1 f2 HFL
        go_wp2_with (first
          | (go_at_call 118; (with_reducible refine (kI _).mono ?_); rintro e w' ⟨rfl, rfl⟩)
          | (go_at_call 133; (with_reducible refine (kO _).mono ?_); rintro e w2 ⟨rfl, hb'⟩; have hr2 := H1.out.2.2.1.on hb'; have H2 := Lib.hid (And.intro (below_on H1.out.1 (Nat.le_refl _) hb') (Blk.below H1.out.2.1 hb' (Blk.lt H1.out.2.1))); clear hb'))
        simp only [if_true] at hr2
        have hm : m ≤ 128 := by
          have h1 := hr2.lenPt
          have h2 := HRL.out (by simp)
          have h3 := HLR.out
          by_cases h4 : n = 0
          · have h5 : (rot (leastN xs n) xs).length ≤ xs.length := by unfold rot; rw [List.length_append, List.length_drop, List.length_take]; omega
            have h6 := HLL.out
            omega
          · have := h3 h4; omega
        have kC := Lib.hid (clonePt_any _ A1 m c1 w2 hr2 (by omega))
        have HR2 := Lib.hid hr2
        have HM := Lib.hid hm
        clear hr2 hm
        go_wp2_with fail
        refine kC.out.mono ?_
        rintro e w3 ⟨A3, c3, rfl, ho3, hb3⟩
        have hK3 := Blk.alloc (Blk.below H2.out.2 hb3 (Blk.lt H2.out.2)) (.cells #[.int .i64 id, .slice A3 m c3, .string s] 38)
        have hN3 := Blk.new w3 38 #[.int .i64 id, .slice A3 m c3, .string s]
        have hB3 := below_on H2.out.1 (Nat.le_refl _) hb3
        have hB4 := hB3.alloc hB3.size (.cells #[.int .i64 id, .slice A3 m c3, .string s] 38)
        have hlt := Blk.lt H2.out.2
        have hsz := hb3.size
        have hBa : Below w3.heap.size w3 (w3.alloc (.cells #[.int .i64 id, .slice A3 m c3, .string s] 38)) := (Below.refl _ _).alloc (Nat.le_refl _) _
        have hr1 := (HR2.out.on hb3).on hBa
        have hr3 := (Reads.of_own ho3).on hBa
        have hcc := And.intro (own_cap ho3) (own_base ho3)
        have q1 : (w3.alloc (.cells #[.int .i64 id, .slice A3 m c3, .string s] 38)).cell? ⟨w.heap.size, 0, none⟩ = some (.slice none 0 0) := by rw [Blk.cell hK3]; rfl
        have q2 : (w3.alloc (.cells #[.int .i64 id, .slice A3 m c3, .string s] 38)).cell? ⟨w.heap.size, 1, none⟩ = some (.slice none 0 0) := by rw [Blk.cell hK3]; rfl
        have f1 := Blk.frozen hK3 0
        have f2 := Blk.frozen hK3 1
        have HL := Lib.hid (And.intro hlt hsz)
        have H4 := Lib.hid (And.intro hK3 (And.intro hN3 (And.intro hB4 (And.intro hr1 (And.intro hr3 hcc)))))
        clear hK3 hN3 hB3 hB4 hlt hsz hBa hr1 hr3 hcc ho3 hb3 kC
        go_wp2_with fail
        obtain ⟨hK4, hN4, hB4, hr1, hr3, hcc⟩ := H4.out
        have hge : w.heap.size ≤ w.heap.size := Nat.le_refl _
        have hB5 := (hB4.setCell (p := ⟨w.heap.size, 0, none⟩) hge (.slice A1 m c1)).setCell (p := ⟨w.heap.size, 1, none⟩) hge (.slice (some ⟨w3.heap.size, 0, none⟩) 1 1)
        have hK5 := Blk.set_ (Blk.set_ hK4 0 (.slice A1 m c1)) 1 (.slice (some ⟨w3.heap.size, 0, none⟩) 1 1)
        have hne : w3.heap.size ≠ w.heap.size := by have := HL.out; omega
        have hN5 := Blk.far (p := ⟨w.heap.size, 1, none⟩) (Blk.far (p := ⟨w.heap.size, 0, none⟩) hN4 hne (.slice A1 m c1)) hne (.slice (some ⟨w3.heap.size, 0, none⟩) 1 1)
        have g1 : ∀ ad, A1 = some ad → ad.block ≠ w.heap.size := fun ad h => by have := H1.out.2.2.2.2 ad h; rw [World.size_alloc] at this; omega
        have g3 : ∀ ad, A3 = some ad → ad.block ≠ w.heap.size := fun ad h => by have := hcc.2 ad h; have := HL.out.1; omega
        have hr5 := Reads.farA (q := ⟨w.heap.size, 1, none⟩) (Reads.farA (q := ⟨w.heap.size, 0, none⟩) hr1 g1 (.slice A1 m c1)) g1 (.slice (some ⟨w3.heap.size, 0, none⟩) 1 1)
        have hr6 := Reads.farA (q := ⟨w.heap.size, 1, none⟩) (Reads.farA (q := ⟨w.heap.size, 0, none⟩) hr3 g3 (.slice A1 m c1)) g3 (.slice (some ⟨w3.heap.size, 0, none⟩) 1 1)
        have hsz : ((((w3.alloc (.cells #[.int .i64 id, .slice A3 m c3, .string s] 38)).setCell ⟨w.heap.size, 0, none⟩ (.slice A1 m c1)).setCell ⟨w.heap.size, 1, none⟩ (.slice (some ⟨w3.heap.size, 0, none⟩) 1 1))).heap.size = (w3.alloc (.cells #[.int .i64 id, .slice A3 m c3, .string s] 38)).heap.size := by simp
        rw [← hsz] at hr5 hr6
        have hlt5 : w3.heap.size < (w3.alloc (.cells #[.int .i64 id, .slice A3 m c3, .string s] 38)).heap.size := by simp
        rw [← hsz] at hlt5
        clear hsz hr1 hr3 hB4 hK4 hN4 H4 q1 q2 f1 f2
        generalize ((w3.alloc (.cells #[.int .i64 id, .slice A3 m c3, .string s] 38)).setCell ⟨w.heap.size, 0, none⟩ (.slice A1 m c1)).setCell ⟨w.heap.size, 1, none⟩ (.slice (some ⟨w3.heap.size, 0, none⟩) 1 1) = V at *
        have r1 : V.cell? ⟨w.heap.size, 0, none⟩ = some (.slice A1 m c1) := by rw [Blk.cell hK5]; rfl
        have r2 : V.cell? ⟨w.heap.size, 1, none⟩ = some (.slice (some ⟨w3.heap.size, 0, none⟩) 1 1) := by rw [Blk.cell hK5]; rfl
        have hfit : Plan.fits ⟨rot (leastN xs n) xs, [⟨id, rot (leastN xs n) xs, s⟩]⟩ := by
          have h1 := hr5.lenPt
          have h2 := HM.out
          refine ⟨⟨by simp only; omega, HX.out⟩, by simp, fun x hx => ?_⟩
          rw [List.mem_singleton] at hx
          subst hx
          exact ⟨by simp only; omega, HX.out, hi, hs⟩
        refine bodyPost_ret (v := .tuple #[planV A1 m c1 (some ⟨w3.heap.size, 0, none⟩) 1 1, .int .i64 0]) ?_ rfl ⟨A1, m, c1, some ⟨w3.heap.size, 0, none⟩, 1, 1, by rw [hv.out], ?_, hB5⟩
        · simp [results, Tryz.results80, go_sem, r1, r2]
        · rw [HPd.out, if_pos hv.out]
          exact ⟨hr5, pIn_one hN5 hr6 hcc.1.1 hcc.1.2 hlt5, H1.out.2.2.2.1, ⟨Nat.le_refl _, by omega⟩, hfit⟩
  · have h0' : (e0 != 0) = true := by simpa using h0
    have hv : Hid (beginE xs id s = e0) := by show _ = _; rw [HE.out, if_neg h0]
    go_wp2_with fail
    have hB2 := (H1.out.1.setCell (p := ⟨w.heap.size, 0, none⟩) (Nat.le_refl _) (.slice none 0 0)).setCell (p := ⟨w.heap.size, 1, none⟩) (Nat.le_refl _) (.slice none 0 0)
    have hK2 := Blk.set_ (Blk.set_ H1.out.2.1 0 (.slice none 0 0)) 1 (.slice none 0 0)
    generalize (w1.setCell ⟨w.heap.size, 0, none⟩ (.slice none 0 0)).setCell ⟨w.heap.size, 1, none⟩ (.slice none 0 0) = V at *
    have r1 : V.cell? ⟨w.heap.size, 0, none⟩ = some (.slice none 0 0) := by rw [Blk.cell hK2]; rfl
    have r2 : V.cell? ⟨w.heap.size, 1, none⟩ = some (.slice none 0 0) := by rw [Blk.cell hK2]; rfl
    refine bodyPost_ret (v := .tuple #[planV none 0 0 none 0 0, .int .i64 e0]) ?_ rfl (HFL.out _ hB2 _ hv.out h0)
    simp [results, Tryz.results80, go_sem, r1, r2]
end Go.Proofs.YtgkcenhopmjmlaaGreat

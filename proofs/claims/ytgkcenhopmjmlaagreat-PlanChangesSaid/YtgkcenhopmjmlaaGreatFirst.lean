/- plan.first: the walk. -/
import Derived.Test.YtgkcenhopmjmlaaGreatWalk
import Derived.Test.YtgkcenhopmjmlaaGreatSamePc
import Derived.Test.YtgkcenhopmjmlaaGreatCorn2
namespace Go.Proofs.YtgkcenhopmjmlaaGreat
open Go.RowKit Go.Lib
def encI (z : Int) : Value := .int .i64 z
theorem findNow_ints (x : Int) (l : List (Int × Value)) : ∀ i, Instr.findNow (.int .i64) (encI x) ((l.zipIdx i).map (entF encI)) i = some (findL x l i) := by
  induction l with
  | nil => intro i; rfl
  | cons z l ih =>
    obtain ⟨k, v⟩ := z
    intro i
    unfold findL
    by_cases e : x = k
    · rw [if_pos e]
      simp [Instr.findNow, Instr.sameNow, entF, encI, e]
    · rw [if_neg e]
      have hb : (x == k) = false := by simpa using e
      have h := ih (i + 1)
      unfold encI at h
      simp [Instr.findNow, Instr.sameNow, entF, encI, hb]
      exact h
theorem run_findI (x : Int) (w : World) (l : List (Int × Value)) : (Instr.findKey 3 (.int .i64 x) (entriesOf encI l).toList).run Tryz.prog w = .ok (findL x l 0) w :=
  Go.MapKept.run_findKey Tryz.underlying3 (by unfold entriesOf; exact findNow_ints x l 0)
theorem run_lookI_in {T E : TypeId} (ht : Tryz.prog.underlying T = some (.map 3 E)) {W : World} {b : Nat} {l : List (Int × Value)} (h : MapB W b encI l) {x : Int} {v : Value} (hx : look l x = some v) :
    (Instr.lookup T (.map (some b)) (.int .i64 x) true).run Tryz.prog W = .ok (.tuple #[v, .bool true]) W := by
  have hf := run_findI x W l
  have hc := fun em => check_int 9999 em x W
  have hl := findL_look x l 0
  rw [hx] at hl
  cases hq : findL x l 0 with
  | none => rw [hq] at hl; simp at hl
  | some z =>
    rw [hq] at hl hf
    simp at hl
    have hb : W.heap[b]? = some (.map (entriesOf encI l) l.length) := h
    simp [Instr.lookup, run_underlying ht, getObj, Sem.run, hb, hf, hc, ← hl]
theorem run_lookI_out {T E : TypeId} (ht : Tryz.prog.underlying T = some (.map 3 E)) {z : Value} (hz : ∀ w, (zeroValue E).run Tryz.prog w = .ok z w) {W : World} {b : Nat} {l : List (Int × Value)} (h : MapB W b encI l) {x : Int} (hx : look l x = none) :
    (Instr.lookup T (.map (some b)) (.int .i64 x) true).run Tryz.prog W = .ok (.tuple #[z, .bool false]) W := by
  have hf := run_findI x W l
  have hc := fun em => check_int 9999 em x W
  have hl := findL_look x l 0
  rw [hx] at hl
  cases hq : findL x l 0 with
  | some z => rw [hq] at hl; simp at hl
  | none =>
    rw [hq] at hf
    have hb : W.heap[b]? = some (.map (entriesOf encI l) l.length) := h
    simp [Instr.lookup, run_underlying ht, getObj, Sem.run, hb, hf, hz, hc]
theorem run_putI {T E : TypeId} (ht : Tryz.prog.underlying T = some (.map 3 E)) {W : World} {b : Nat} {l : List (Int × Value)} (h : MapB W b encI l) {x : Int} (v : Value) (hx : look l x = none) :
    ∃ W', (Instr.mapUpdate T (.map (some b)) (.int .i64 x) v).run Tryz.prog W = .ok () W' ∧ MapB W' b encI (l ++ [(x, v)]) ∧ W.grownBy W' (some b) := by
  have hf := run_findI x W l
  have hc := fun em => check_int 9999 em x W
  have hl := findL_look x l 0
  rw [hx] at hl
  cases hq : findL x l 0 with
  | some z => rw [hq] at hl; simp at hl
  | none =>
    rw [hq] at hf
    have hb : W.heap[b]? = some (.map (entriesOf encI l) l.length) := h
    have hlt := h.lt
    refine ⟨Go.ChangeMaps.setBlock W b (.map (entriesOf encI (l ++ [(x, v)])) (l.length + 1)), ?_, ?_, ?_⟩
    · rw [entriesOf_snoc]
      simp [Instr.mapUpdate, run_underlying ht, getObj, setObj, Sem.run, hb, hc, hf, Go.ChangeMaps.setBlock, encI]
    · unfold MapB Go.ChangeMaps.setBlock
      simp [hlt]
    · refine ⟨rfl, rfl, rfl, by simp [Go.ChangeMaps.setBlock], fun k hk hne => ?_⟩
      have : b ≠ k := fun e => hne (by rw [e])
      simp [Go.ChangeMaps.setBlock, this]
/-- The map of the first k parcels' firsts. -/
structure FirM (ps : List Parc) (B k : Nat) (W : World) (L : List (Int × Value)) : Prop where
  keys : (L.map (·.1)).Nodup
  none_ : ∀ z, look L z = none ↔ ∀ j, j < k → (pcAt ps j).id ≠ z
  some_ : ∀ z (j : Nat), j < k → atP ps z = (j : Int) → ∃ Ax nx cx, look L z = some (pcVal (pcAt ps j) Ax nx cx) ∧ Reads W B 2 Ax nx (ptsV (pcAt ps j).ring) ∧ nx ≤ cx ∧ cx ≤ 9223372036854775807
theorem FirM.below {ps : List Parc} {B k : Nat} {W W' : World} {L : List (Int × Value)} (h : FirM ps B k W L) (hb : Below B W W') : FirM ps B k W' L :=
  ⟨h.keys, h.none_, fun z j hj ha => by obtain ⟨Ax, nx, cx, h1, h2, h3⟩ := h.some_ z j hj ha; exact ⟨Ax, nx, cx, h1, h2.below hb, h3⟩⟩
theorem FirM.zero (ps : List Parc) (B : Nat) (W : World) : FirM ps B 0 W [] := ⟨List.nodup_nil, fun _ => ⟨fun _ _ hj => absurd hj (Nat.not_lt_zero _), fun _ => rfl⟩, fun _ _ hj => absurd hj (Nat.not_lt_zero _)⟩
theorem atP_first {ps : List Parc} {k : Nat} (hk : k < ps.length) : ∃ j : Nat, j ≤ k ∧ atP ps (pcAt ps k).id = (j : Int) ∧ (pcAt ps j).id = (pcAt ps k).id ∧ ∀ i, i < j → (pcAt ps i).id ≠ (pcAt ps k).id := by
  have hex : ∃ j, j ≤ k ∧ (pcAt ps j).id = (pcAt ps k).id ∧ ∀ i, i < j → (pcAt ps i).id ≠ (pcAt ps k).id := by
    induction k using Nat.strongRecOn with
    | ind k ih =>
      by_cases h : ∃ i, i < k ∧ (pcAt ps i).id = (pcAt ps k).id
      · obtain ⟨i, hi, e⟩ := h
        obtain ⟨j, h1, h2, h3⟩ := ih i hi (by omega)
        exact ⟨j, by omega, h2.trans e, fun t ht => by rw [← e]; exact h3 t ht⟩
      · exact ⟨k, Nat.le_refl _, rfl, fun i hi e => h ⟨i, hi, e⟩⟩
  obtain ⟨j, h1, h2, h3⟩ := hex
  exact ⟨j, h1, atP_at (by omega) h2 h3, h2, h3⟩
theorem atP_least {ps : List Parc} {z : Int} {k : Nat} (h : atP ps z = (k : Int)) : ∀ i, i < k → (pcAt ps i).id ≠ z := by
  rcases atP_cases ps z with ⟨e, -⟩ | ⟨t, ht, e, hz⟩
  · omega
  obtain rfl : t = k := by omega
  obtain ⟨j, h1, h2, h3, h4⟩ := atP_first ht
  rw [hz] at h2 h3 h4
  obtain rfl : j = t := by omega
  exact h4
/-- One parcel more that has been. -/
theorem FirM.skip {ps : List Parc} {B k : Nat} {W : World} {L : List (Int × Value)} (h : FirM ps B k W L) (hs : look L (pcAt ps k).id ≠ none) : FirM ps B (k + 1) W L := by
  have hx : ∃ j, j < k ∧ (pcAt ps j).id = (pcAt ps k).id := by
    apply Classical.byContradiction
    intro hn
    exact hs ((h.none_ _).2 fun j hj e => hn ⟨j, hj, e⟩)
  refine ⟨h.keys, fun z => ?_, fun z j hj ha => ?_⟩
  · rw [h.none_]
    refine ⟨fun hz j hj e => ?_, fun hz j hj => hz j (by omega)⟩
    by_cases e2 : j = k
    · subst e2
      obtain ⟨i, hi, e3⟩ := hx
      exact hz i hi (e3.trans e)
    · exact hz j (by omega) e
  · by_cases e2 : j = k
    · subst e2
      obtain ⟨i, hi, e3⟩ := hx
      rcases atP_cases ps z with ⟨e4, -⟩ | ⟨t, ht, e4, hz⟩
      · omega
      obtain rfl : t = j := by omega
      exact absurd (e3.trans hz) (atP_least ha i hi)
    · exact h.some_ z j (by omega) ha
/-- One parcel more that is the first of its number. -/
theorem FirM.put {ps : List Parc} {B k : Nat} {W : World} {L : List (Int × Value)} (h : FirM ps B k W L) (hs : look L (pcAt ps k).id = none) {Ax : Option Addr} {nx cx : Nat} (hr : Reads W B 2 Ax nx (ptsV (pcAt ps k).ring)) (hc : nx ≤ cx ∧ cx ≤ 9223372036854775807) :
    FirM ps B (k + 1) W (L ++ [((pcAt ps k).id, pcVal (pcAt ps k) Ax nx cx)]) := by
  have hnk := look_none.1 hs
  have hn : ((L ++ [((pcAt ps k).id, pcVal (pcAt ps k) Ax nx cx)]).map (·.1)).Nodup := by
    rw [List.map_append, List.nodup_append]
    refine ⟨h.keys, by simp, fun a ha b hb => ?_⟩
    simp at hb
    rintro rfl
    exact hnk (hb ▸ ha)
  refine ⟨hn, fun z => ?_, fun z j hj ha => ?_⟩
  · rw [look_none, List.map_append, List.mem_append, not_or, ← look_none, h.none_]
    simp only [List.map_cons, List.map_nil, List.mem_singleton]
    refine ⟨fun ⟨h1, h2⟩ j hj e => ?_, fun hz => ⟨fun j hj => hz j (by omega), fun e => hz k (by omega) e.symm⟩⟩
    by_cases e2 : j = k
    · subst e2; exact h2 e.symm
    · exact h1 j (by omega) e
  · by_cases e2 : j = k
    · subst e2
      rcases atP_cases ps z with ⟨e4, -⟩ | ⟨t, ht, e4, hz⟩
      · omega
      obtain rfl : t = j := by omega
      exact ⟨Ax, nx, cx, look_of hn (by rw [← hz]; simp), hr, hc⟩
    · obtain ⟨Ay, ny, cy, h1, h2⟩ := h.some_ z j (by omega) ha
      exact ⟨Ay, ny, cy, look_of hn (List.mem_append_left _ (look_mem h1)), h2⟩
theorem FirM.form {ps : List Parc} {B k : Nat} {W : World} {L : List (Int × Value)} (h : FirM ps B k W L) (hk : k ≤ ps.length) {z : Int} {v : Value} (hv : look L z = some v) : ∃ (j : Nat) (Ax : Option Addr) (nx cx : Nat), j < k ∧ atP ps z = (j : Int) ∧ v = pcVal (pcAt ps j) Ax nx cx ∧ Reads W B 2 Ax nx (ptsV (pcAt ps j).ring) ∧ nx ≤ cx ∧ cx ≤ 9223372036854775807 := by
  have hx : ∃ j, j < k ∧ (pcAt ps j).id = z := by
    apply Classical.byContradiction
    intro hn
    rw [(h.none_ z).2 fun j hj e => hn ⟨j, hj, e⟩] at hv
    cases hv
  obtain ⟨i, hi, rfl⟩ := hx
  obtain ⟨j, h1, h2, -, -⟩ := atP_first (show i < ps.length by omega)
  obtain ⟨Ax, nx, cx, h3, h4⟩ := h.some_ _ j (by omega) h2
  rw [h3] at hv
  exact ⟨j, Ax, nx, cx, by omega, h2, (Option.some.inj hv).symm, h4⟩
set_option maxRecDepth 100000 in
set_option maxHeartbeats 1600000 in
theorem first_any (p : Plan) (A A' : Option Addr) (n c n' c' : Nat) (w : World) (h : PlanAt w w.heap.size A n c A' n' c' p) (hn' : n' ≤ 1048576) :
    Calls Tryz.prog 81 #[planV A n c A' n' c'] w fun e w' => ∃ b L, e = .returned (.map (some b)) ∧ MapB w' b encI L ∧ FirM p.parcels w.heap.size n' w' L ∧ w.heap.size ≤ b ∧ Below w.heap.size w w' := by
  have hmm := @run_makeMap Tryz.prog
  obtain ⟨wa, hwa⟩ : ∃ wa : World, wa = (w.alloc (.cells #[.slice A n c, .slice A' n' c'] 26)).alloc (.map #[] 0) := ⟨_, rfl⟩
  have hB0 : Below w.heap.size w wa := by rw [hwa]; exact ((Below.refl _ _).alloc (Nat.le_refl _) _).alloc (by simp) _
  have hM0 : MapB wa (w.heap.size + 1) encI [] := by
    have := MapB.made (w.alloc (.cells #[.slice A n c, .slice A' n' c'] 26)) encI
    rw [World.size_alloc] at this
    rw [hwa]
    exact this
  have hK0 : PlK wa w.heap.size A n c A' n' c' := by rw [hwa]; exact Blk.below (PlK.new w A n c A' n' c') ((Below.refl _ _).alloc (Nat.le_refl _) _) (by simp)
  have HL := Lib.hid h.lens.2.1
  have H0 := Lib.hid (And.intro hB0 (And.intro hK0 (And.intro hM0 h)))
  clear hB0 hM0 hK0 h
  go_enter Tryz.func81, Tryz.ntmps81
  go_upto_region 2 with fail
  rw [← hwa]
  clear hwa hmm
  obtain ⟨q1, q2, q3⟩ := H0.out.2.1.facts
  go_wp2_with fail
  clear q1 q2 q3
  go_loopw [12] (fun i wr => ∃ (k : Nat) (L : List (Int × Value)), k ≤ n' ∧ i = .int .i64 (k : Int) ∧ Hid (Below w.heap.size w wr ∧ MapB wr (w.heap.size + 1) encI L ∧ FirM p.parcels w.heap.size k wr L)) (fun i _ => n' - (intOf i).toNat)
  case atStart => exact ⟨0, [], Nat.zero_le _, rfl, H0.out.1, H0.out.2.2.1, FirM.zero _ _ _⟩
  case round =>
    obtain ⟨k, L, hk, rfl, HF⟩ := hrel
    obtain ⟨W, rfl⟩ : ∃ W, W = wr := ⟨_, rfl⟩
    by_cases hlt : k < n'
    · have hlt' : (k : Int) < (n' : Int) := by omega
      have hw1 : IntKind.i64.wrap ((k : Int) + 1) = (k : Int) + 1 := by rw [IntKind.wrap_i64]; omega
      obtain ⟨ad, rfl⟩ := H0.out.2.2.2.parcs.some_ (by omega)
      obtain ⟨had, x1, ⟨Ax, nx, cx, x2, hrx, hxc⟩, x3⟩ := (H0.out.2.2.2.below HF.out.1).parcs.at_ hlt
      obtain ⟨x, hx⟩ : ∃ x, x = pcAt p.parcels k := ⟨_, rfl⟩
      rw [← hx] at x1 x3 hrx
      have hlk : ∃ (zp : Parc) (Az : Option Addr) (nz cz : Nat) (tb : Bool), Hid (tb = true ↔ look L x.id ≠ none) ∧ ∀ V, MapB V (w.heap.size + 1) encI L → Sem.run Tryz.prog (Instr.lookup 105 (.map (some (w.heap.size + 1))) (.int .i64 x.id) true) V = .ok (.tuple #[.agg #[.int .i64 zp.id, .slice Az nz cz, .string zp.owner], .bool tb]) V := by
        rcases hq : look L x.id with _ | v
        · exact ⟨⟨0, [], ⟨#[]⟩⟩, none, 0, 0, false, (by show _ ↔ _; simp), fun V hV => run_lookI_out Tryz.underlying105 Tryz.zeroValue38 hV hq⟩
        · obtain ⟨j, Az, nz, cz, -, -, rfl, -⟩ := HF.out.2.2.form (by rw [HL.out]; exact hk) hq
          exact ⟨pcAt p.parcels j, Az, nz, cz, true, (by show _ ↔ _; simp), fun V hV => run_lookI_in Tryz.underlying105 hV hq⟩
      obtain ⟨zp, Az, nz, cz, tb, htb, hlk⟩ := hlk
      have hba : Below W.heap.size W (W.alloc (.cells #[.int .i64 x.id, .slice Ax nx cx, .string x.owner] 38)) := (Below.refl _ _).alloc (Nat.le_refl _) _
      have H1 := Lib.hid (And.intro (below_on HF.out.1 (Nat.le_refl _) hba) (And.intro (HF.out.2.1.kept (hba.block _ HF.out.2.1.lt)) (And.intro (HF.out.2.2.below (hba.mono HF.out.1.size)) (And.intro (PcK.new W x Ax nx cx) (And.intro (hrx.below (hba.mono HF.out.1.size)) hxc)))))
      obtain ⟨W1, hW1⟩ : ∃ V, V = W.alloc (.cells #[.int .i64 x.id, .slice Ax nx cx, .string x.owner] 38) := ⟨_, rfl⟩
      obtain ⟨g, hg⟩ : ∃ g, g = W.heap.size := ⟨_, rfl⟩
      rw [← hW1, ← hg] at H1
      have HX := Lib.hid hx
      clear hba hrx hxc HF hx had
      go_upto_region 5 with fail
      rw [← hW1, ← hg]
      clear hW1 hg x1 x2 x3
      obtain ⟨b1, b2, b3, -⟩ := (show PcK W1 g x Ax nx cx from H1.out.2.2.2.1).facts
      have hlk1 := hlk W1 H1.out.2.1
      clear hlk
      have hba : Below W1.heap.size W1 (W1.alloc (.cells #[.int .i64 zp.id, .slice Az nz cz, .string zp.owner] 38)) := (Below.refl _ _).alloc (Nat.le_refl _) _
      have H2 := Lib.hid (And.intro (below_on H1.out.1 (Nat.le_refl _) hba) (And.intro (H1.out.2.1.kept (hba.block _ H1.out.2.1.lt)) (And.intro (H1.out.2.2.1.below (hba.mono H1.out.1.size)) (And.intro (show PcK _ g x Ax nx cx from Blk.below H1.out.2.2.2.1 hba (Blk.lt H1.out.2.2.2.1)) (And.intro (H1.out.2.2.2.2.1.below (hba.mono H1.out.1.size)) H1.out.2.2.2.2.2)))))
      obtain ⟨W2, hW2⟩ : ∃ V, V = W1.alloc (.cells #[.int .i64 zp.id, .slice Az nz cz, .string zp.owner] 38) := ⟨_, rfl⟩
      rw [← hW2] at H2
      clear hba H1
      go_upto_region 6 with fail
      rw [← hW2]
      clear hW2 hlk1 b1 b2 b3
      rcases tb with _ | _
      · have hno : look L x.id = none := by
          apply Classical.byContradiction
          intro h
          exact absurd (htb.out.2 h) (by simp)
        obtain ⟨W3, hup, hm3, hg3⟩ := run_putI Tryz.underlying105 H2.out.2.1 (pcVal x Ax nx cx) hno
        obtain ⟨b1, b2, b3, -⟩ := (show PcK W2 g x Ax nx cx from H2.out.2.2.2.1).facts
        have hb3 : Below w.heap.size w W3 := H2.out.1.grown hg3 H2.out.1.size (fun j e => by have := Option.some.inj e; omega)
        have hF2 := FirM.put (by rw [← HX.out] at *; exact H2.out.2.2.1) (by rw [← HX.out]; exact hno) (by rw [← HX.out]; exact H2.out.2.2.2.2.1) H2.out.2.2.2.2.2
        rw [← HX.out] at hF2
        have hB23 : Below w.heap.size W2 W3 := (Below.refl w.heap.size W2).mono (Nat.le_refl _) |>.grown hg3 H2.out.1.size (fun j e => by have := Option.some.inj e; omega)
        have H3 := Lib.hid (And.intro hb3 (And.intro hm3 (hF2.below hB23)))
        clear hm3 hg3 hb3 hF2 hB23 hno htb H2
        go_wp2_with fail
        go_roundw
        case rel => exact ⟨k + 1, _, by omega, by go_num, H3⟩
        case measure => simp [intOf]; omega
      · have hyes : look L x.id ≠ none := htb.out.1 rfl
        have H3 := Lib.hid (And.intro H2.out.1 (And.intro H2.out.2.1 (H2.out.2.2.1.skip (by rw [← HX.out]; exact hyes))))
        clear hyes htb H2
        go_wp2_with fail
        go_roundw
        case rel => exact ⟨k + 1, _, by omega, by go_num, H3⟩
        case measure => simp [intOf]; omega
    · obtain rfl : k = n' := by omega
      have HE := Lib.hid HF.out
      clear HF
      go_wp2_with fail
      go_ret
      exact ⟨_, L, rfl, HE.out.2.1, HE.out.2.2, by omega, HE.out.1⟩
end Go.Proofs.YtgkcenhopmjmlaaGreat

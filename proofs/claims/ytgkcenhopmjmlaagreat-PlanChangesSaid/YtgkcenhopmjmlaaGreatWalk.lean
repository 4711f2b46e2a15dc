/- Points as keys of a map; join.of: the walk. -/
/- join's steps without those that another border goes the other way: the walk. -/
/- plan.Walk: the walk. -/
import Derived.Deep.CutBlock
import Derived.Test.YtgkcenhopmjmlaaGreatSteps
import Derived.Test.YtgkcenhopmjmlaaGreatMapK
import Derived.Test.YtgkcenhopmjmlaaGreatPlanEdges
import Derived.Test.YtgkcenhopmjmlaaGreatInsert1
import Derived.Test.YtgkcenhopmjmlaaGreatLeastPl
namespace Go.Proofs.YtgkcenhopmjmlaaGreat
open Go.RowKit Go.Lib
attribute [local go_sem] Oper.semAt_some
def encP (q : Pt) : Value := .agg #[.int .i64 q.x, .int .i64 q.y]
def stepV (l : List Ed) : List (Pt × Value) := l.map fun e => (e.a, encP e.b)
theorem stepV_len (l : List Ed) : (stepV l).length = l.length := by simp [stepV]
theorem stepV_snoc (l : List Ed) (e : Ed) : stepV (l ++ [e]) = stepV l ++ [(e.a, encP e.b)] := by simp [stepV]
theorem stepV_keys (l : List Ed) : (stepV l).map (·.1) = l.map (·.a) := by simp [stepV]
theorem encP_inj {p q : Pt} (h : encP p = encP q) : p = q := by
  obtain ⟨a, b⟩ := p
  obtain ⟨c, d⟩ := q
  unfold encP at h
  simp at h
  simp [h]
theorem step_look {l : List Ed} (hn : (l.map (·.a)).Nodup) {e : Ed} (he : e ∈ l) : look (stepV l) e.a = some (encP e.b) := look_of (by rw [stepV_keys]; exact hn) (List.mem_map.2 ⟨e, he, rfl⟩)
theorem look_step {l : List Ed} {x : Pt} {v : Value} (h : look (stepV l) x = some v) : ∃ e ∈ l, e.a = x ∧ v = encP e.b := by
  obtain ⟨e, he, h2⟩ := List.mem_map.1 (look_mem h)
  exact ⟨e, he, (Prod.mk.inj h2).1, (Prod.mk.inj h2).2.symm⟩
theorem ptKey : KeyFits Tryz.prog 53 encP where
  wide := by kernel_rfl
  eq p q w := by
    have h := eq_pt 9998 p.x p.y q.x q.y w
    obtain ⟨a, b⟩ := p
    obtain ⟨c, d⟩ := q
    exact h.trans (by simp)
  check em p w := check_pt 9998 em p.x p.y w
  same p := by unfold encP; simp [Instr.sameBits]
set_option maxRecDepth 100000 in
set_option maxHeartbeats 1600000 in
theorem ofJ_any (xs : List Pt) (A : Option Addr) (n c : Nat) (w : World) (h : Reads w w.heap.size 2 A n (ptsV xs)) (hn : n ≤ 1048576) (hnd : xs.Nodup) :
    Calls Tryz.prog 44 #[.slice A n c] w fun e w' => ∃ b, e = .returned (.map (some b)) ∧ MapB w' b encP (stepV (edgesOf xs)) ∧ w.heap.size ≤ b ∧ Below w.heap.size w w' := by
  have hl1 : xs.length = n := h.lenPt
  have hmm := @run_makeMap Tryz.prog
  have HP := Lib.hid (And.intro h (And.intro hl1 hnd))
  clear h hnd
  refine (callsIn_wide (n := 3)).1 ?_
  refine callsIn_of_wp_marks Tryz.func44 rfl trivial ?_ rfl
  simp only [Tryz.ntmps44, List.size_toArray, List.length_cons, List.length_nil, Nat.reduceAdd, Nat.reduceSub, Array.replicate_succ, Array.replicate_zero, List.push_toArray, List.append_toArray, List.nil_append, List.cons_append]
  gi_wp2_with fail
  refine ⟨trivial, ?_⟩
  refine (callsIn_wide.2 (edges_any A n c _)).mono ?_
  rintro e w3 ⟨rfl, rfl⟩
  gi_wp2_with fail
  have hW : Below w.heap.size w (((w.alloc (.map #[] 0)).alloc (.cells #[.map (some w.heap.size)] 64)).alloc (.cells #[.slice A n c] 23)) := (((Below.refl w.heap.size w).alloc (Nat.le_refl _) _).alloc (by simp) _).alloc (by simp; omega) _
  have c3 := (Boxed.new (w.alloc (.map #[] 0)) 64 (.map (some w.heap.size))).alloc (.cells #[.slice A n c] 23)
  have c6 := Boxed.new ((w.alloc (.map #[] 0)).alloc (.cells #[.map (some w.heap.size)] 64)) 23 (.slice A n c)
  simp only [World.size_alloc] at c3 c6
  have cm : MapB (((w.alloc (.map #[] 0)).alloc (.cells #[.map (some w.heap.size)] 64)).alloc (.cells #[.slice A n c] 23)) w.heap.size encP ([] : List (Pt × Value)) := by
    have h1 := MapB.made w encP
    have h2 := h1.kept (Below.heap_alloc _ (.cells #[.map (some w.heap.size)] 64) _ h1.lt)
    exact h2.kept (Below.heap_alloc _ _ _ h2.lt)
  have hz4 : (((w.alloc (.map #[] 0)).alloc (.cells #[.map (some w.heap.size)] 64)).alloc (.cells #[.slice A n c] 23)).heap.size = w.heap.size + 3 := by simp
  generalize (((w.alloc (.map #[] 0)).alloc (.cells #[.map (some w.heap.size)] 64)).alloc (.cells #[.slice A n c] 23)) = w4 at *
  clear hl1
  refine wpIn_rangeFunc_ownH rfl (by omega) (gf := 157) (lb := #[.pointer (some ⟨w.heap.size + 1 + 1, 0, none⟩)]) rfl trivial (enters_of Tryz.func157 (by kernel_rfl) rfl)
    (edges_stopsR 2 (by omega) w.heap.size (w.heap.size + 1 + 1) c n A xs (by omega) w4 (by omega) (by omega) c6.cell (HP.out.1.below (hW.mono (by omega)))) (fun h k => h.trans k)
    (fun W l o o' hl h _ _ => ⟨by simp, fun i hi => World.putObj_heap_other (by omega)⟩) (Below.refl _ _) (fun _ => rfl)
    (fun pre W => (Boxed W (w.heap.size + 1) 64 (.map (some w.heap.size)) ∧ Boxed W (w.heap.size + 1 + 1) 23 (.slice A n c)) ∧ (∃ l, MapB W w.heap.size encP l ∧ ((pre.map (·.1)).Nodup → l = stepV (pre.map fun y => edgeK xs y.1))) ∧ Below w.heap.size w W)
    (fun _ _ _ => False)
    (OwnFrom.and (Own.from (fun s X Y row hs hg hrow => ⟨boxed_own _ _ (fun _ : Unit => _) () X Y row hs.1 hg hrow, boxed_own _ _ (fun _ : Unit => _) () X Y row hs.2 hg hrow⟩) _) (OwnFrom.and (fun s X Y row hs hg hr => by
        obtain ⟨l, h1, h2⟩ := hs
        exact ⟨l, h1.kept (hg.block _ h1.lt (fun e => by have := (hr _ e.symm).1; omega)), h2⟩) (ownFrom_below (Nat.le_refl _) (by omega))))
    (fun _ _ _ _ _ hs _ _ => hs)
    ⟨⟨c3, c6⟩, ⟨[], cm, fun _ => rfl⟩, hW⟩
    (fun y a' W => ∃ (Bx : Nat), Blk W Bx 74 #[.int .i64 (ptAt xs y.1).x, .int .i64 (ptAt xs y.1).y, .int .i64 (ptAt xs ((y.1 + 1) % xs.length)).x, .int .i64 (ptAt xs ((y.1 + 1) % xs.length)).y] ∧
      ∃ v9 v10 : Value, a' = { tmps := #[.slice A n c, undef, .map none, .pointer (some ⟨w.heap.size + 1, 0, none⟩), undef, .pointer (some ⟨Bx, 0, none⟩), .map (some w.heap.size), .slice A n c, .func (.func 157) #[] #[.pointer (some ⟨w.heap.size + 1 + 1, 0, none⟩)], v9, v10, undef, undef, undef, undef, undef, undef], defers := [] })
    (fun y a' => fun s X Y row ⟨Bx, hs, e⟩ hg hrow => ⟨Bx, blk_own Bx _ (fun _ : Unit => _) () X Y row hs hg (fun r hr => (hrow r hr).2), e⟩) ?assign ?body ?done ?stop
  case assign =>
    rintro l pre y W K ⟨⟨d1, d2⟩, ⟨l', dm, dl⟩, dB⟩ hK
    unfold edgeAt edgeV
    gi_wp2
    have h1 := d2.lt
    have h2 := dB.size
    exact hK _ _ ((KeepsOthers.alloc _ _).from _) (KeepE.alloc (by omega) h1 _) ⟨⟨d1.alloc _, d2.alloc _⟩, ⟨l', dm.kept (Below.heap_alloc _ _ _ dm.lt), dl⟩, dB.alloc dB.size _⟩ ⟨W.heap.size, Blk.new W _ _, _, _, rfl⟩
  case body =>
    rintro l pre ⟨y, hyn⟩ a' W hl' ⟨r, hrr⟩ ⟨⟨d1, d2⟩, ⟨lb, dl, hlb⟩, dB⟩ ⟨Bx, hBx, v9, v10, rfl⟩ hlen'
    obtain ⟨e, he⟩ : ∃ e, e = edgeK xs y := ⟨_, rfl⟩
    have he1 : e.a = ptAt xs y := by rw [he]; rfl
    have he2 : e.b = ptAt xs ((y + 1) % xs.length) := by rw [he]; rfl
    simp only [← he1, ← he2] at hBx
    have HY := Lib.hid (And.intro d1 (And.intro d2 dB))
    have x1 : W.cell? ⟨Bx, 0, none⟩ = some (.int .i64 e.a.x) := by rw [Blk.cell hBx 0]; rfl
    have x2 : W.cell? ⟨Bx, 1, none⟩ = some (.int .i64 e.a.y) := by rw [Blk.cell hBx 1]; rfl
    have x3 : W.cell? ⟨Bx, 2, none⟩ = some (.int .i64 e.b.x) := by rw [Blk.cell hBx 2]; rfl
    have x4 : W.cell? ⟨Bx, 3, none⟩ = some (.int .i64 e.b.y) := by rw [Blk.cell hBx 3]; rfl
    have x5 := d1.cell
    have hput : ∃ W' l', Sem.run Tryz.prog (Instr.mapUpdate 64 (.map (some w.heap.size)) (encP e.a) (encP e.b)) W = .ok () W' ∧ MapB W' w.heap.size encP l' ∧ W.grownBy W' (some w.heap.size) ∧ (((pre ++ [(⟨y, hyn⟩ : {k : Nat // k < n})]).map (·.1)).Nodup → l' = stepV ((pre ++ [(⟨y, hyn⟩ : {k : Nat // k < n})]).map fun y => edgeK xs y.1)) := by
      have hmap : (pre ++ [(⟨y, hyn⟩ : {k : Nat // k < n})]).map (fun y => edgeK xs y.1) = (pre.map fun y => edgeK xs y.1) ++ [e] := by rw [List.map_append, he]; rfl
      rcases hq2 : look lb e.a with _ | u
      · obtain ⟨W', h1, h2, h3⟩ := run_put_new ptKey Tryz.underlying64 dl (encP e.b) hq2
        refine ⟨W', _, h1, h2, h3, fun hnd => ?_⟩
        rw [List.map_append, List.nodup_append] at hnd
        rw [hmap, stepV_snoc, hlb hnd.1]
      · obtain ⟨W', h1, h2, h3⟩ := run_put_old ptKey Tryz.underlying64 dl (encP e.b) hq2
        refine ⟨W', _, h1, h2, h3, fun hnd => ?_⟩
        exfalso
        rw [List.map_append, List.nodup_append] at hnd
        rw [hlb hnd.1] at hq2
        obtain ⟨f, hf, hk, -⟩ := look_step hq2
        obtain ⟨z, hz, rfl⟩ := List.mem_map.1 hf
        have h4 : z.1 = y := nodup_ptAt HP.out.2.2 (by have := z.2; have := HP.out.2.1; omega) (by have := HP.out.2.1; omega) (by rw [← he1]; exact hk)
        exact hnd.2.2 z.1 (List.mem_map.2 ⟨z, hz, rfl⟩) y (by simp) h4
    obtain ⟨W', l', hup, hm', hg', hl'⟩ := hput
    have hup' : Sem.run Tryz.prog (Instr.mapUpdate 64 (.map (some w.heap.size)) (.agg #[.int .i64 e.a.x, .int .i64 e.a.y]) (.agg #[.int .i64 e.b.x, .int .i64 e.b.y])) W = .ok () W' := hup
    have hgl := dl.lt
    have HZ := Lib.hid (And.intro hm' (And.intro hg' hl'))
    clear d1 d2 dB dl hlb hBx hup hm' hg' hl' he he1 he2
    gi_wp2_with fail
    obtain ⟨e1, e2, eB⟩ := HY.out
    obtain ⟨hm', hg', hl'⟩ := HZ.out
    have hbb : ∀ i, i < W.heap.size → i ≠ w.heap.size → W'.heap[i]? = W.heap[i]? := fun i hi hne' => hg'.block i hi (fun e => hne' (by cases e; rfl))
    exact ⟨KeepsFrom.of_grownBy hg' (fun j e => by have := Option.some.inj e; omega), ⟨hg'.size, fun i hi => hbb i (by have := e2.lt; omega) (by omega)⟩, ⟨e1.kept hg' (fun e => by have := Option.some.inj e; omega), e2.kept hg' (fun e => by have := Option.some.inj e; omega)⟩, ⟨l', hm', hl'⟩, eB.grown hg' eB.size (fun j e => by have := Option.some.inj e; omega)⟩
  case done =>
    rintro D ys W hD hys ⟨⟨d1, d2⟩, ⟨lb, dl, hlb⟩, dB⟩ hK
    have hl : lb = stepV (edgesOf xs) := by
      rw [hlb (by rw [hys]; exact List.nodup_range), edgesOf_map, HP.out.2.1, ← hys, List.map_map]
      rfl
    rw [hl] at dl
    have i3 := d1.cell
    have HD := Lib.hid (And.intro dl dB)
    clear hl hlb dl dB hys
    gi_wp2
    refine ⟨by simp, .inl ⟨_, _, rfl, run_takeDeferred hK, ?_⟩⟩
    refine ⟨.map (some w.heap.size), ?_, ⟨w.heap.size, rfl, HD.out.1.kept (World.putObj_heap_other (by omega)), Nat.le_refl _, HD.out.2.trans (belowK_b (w := w) (Nat.le_refl _) W D _ _ (by omega) hK rfl rfl)⟩⟩
    simp [results, Tryz.results44, go_sem]
  case stop => exact fun _ _ _ _ _ _ h => h.elim
end Go.Proofs.YtgkcenhopmjmlaaGreat
namespace Go.Proofs.YtgkcenhopmjmlaaGreat
open Go.RowKit Go.Lib
theorem push_has {seen : Array Nat} {i j : Nat} : (seen.push i).contains j = true ↔ seen.contains j = true ∨ j = i := by
  rw [Array.contains_iff_mem, Array.contains_iff_mem, Array.mem_push]
theorem key_eq {l : List Ed} (hn : (l.map (·.a)).Nodup) {e f : Ed} (he : e ∈ l) (hf : f ∈ l) (h : e.a = f.a) : e = f := by
  obtain ⟨i, hi, rfl⟩ := List.getElem_of_mem he
  obtain ⟨j, hj, rfl⟩ := List.getElem_of_mem hf
  have hij : i = j := (List.getElem_inj (h₀ := by simpa using hi) (h₁ := by simpa using hj) hn).1 (by simpa using h)
  subst hij
  rfl
theorem nodup_keys {l : List Ed} (hn : (l.map (·.a)).Nodup) : l.Nodup := List.Pairwise.of_map (·.a) (fun a b h e => h (by rw [e])) hn
theorem perm_both {a b : List Ed} (ha : a.Nodup) (hb : b.Nodup) (h : ∀ e, e ∈ a ↔ e ∈ b) : a.Perm b := by
  have sub : ∀ {x y : List Ed}, x.Nodup → (∀ e ∈ x, e ∈ y) → x.length ≤ y.length := fun {x y} hx hs => by
    refine Classical.byContradiction fun hlt => ?_
    have := (perm_of_sub hx hs (by omega)).length_eq
    omega
  exact perm_of_sub ha (fun e he => (h e).1 he) (sub hb fun e he => (h e).2 he)
structure SeenI (l t : List Ed) (seen : Array Nat) (l' : List Ed) : Prop where
  nd : (l'.map (·.a)).Nodup
  mem : ∀ e, e ∈ l' ↔ ∃ i, ∃ hi : i < l.length, seen.contains i = true ∧ l[i] = e ∧ e.back ∉ t
theorem SeenI.start (l t : List Ed) : SeenI l t #[] [] := ⟨List.nodup_nil, fun _ => ⟨fun h => (by simp at h), fun ⟨i, _, h, _⟩ => (by simp at h)⟩⟩
theorem SeenI.skip {l t : List Ed} {seen : Array Nat} {l' : List Ed} (h : SeenI l t seen l') {i : Nat} (hi : i < l.length) {e : Ed} (he : e = l[i]) (hb : e.back ∈ t) : SeenI l t (seen.push i) l' := by
  refine ⟨h.nd, fun f => ?_⟩
  rw [h.mem f]
  constructor
  · rintro ⟨j, hj, h1, h2, h3⟩
    exact ⟨j, hj, push_has.2 (.inl h1), h2, h3⟩
  · rintro ⟨j, hj, h1, h2, h3⟩
    rcases push_has.1 h1 with h4 | h4
    · exact ⟨j, hj, h4, h2, h3⟩
    · subst h4
      rw [h2] at he
      rw [he] at hb
      exact absurd hb h3
theorem SeenI.put {l t : List Ed} {seen : Array Nat} {l' : List Ed} (h : SeenI l t seen l') (hl : (l.map (·.a)).Nodup) {i : Nat} (hi : i < l.length) (hs : seen.contains i = false) {e : Ed} (he : e = l[i]) (hb : e.back ∉ t) : look (stepV l') e.a = none ∧ SeenI l t (seen.push i) (l' ++ [e]) := by
  have hno : ∀ f ∈ l', f.a ≠ e.a := fun f hf hk => by
    obtain ⟨j, hj, h1, h2, -⟩ := (h.mem f).1 hf
    have := key_eq hl (show f ∈ l by rw [← h2]; exact List.getElem_mem hj) (show e ∈ l by rw [he]; exact List.getElem_mem hi) hk
    rw [← h2, he] at this
    have hij : j = i := (List.getElem_inj (nodup_keys hl)).1 this
    rw [hij, hs] at h1
    cases h1
  refine ⟨look_none.2 fun hx => ?_, ?_, fun f => ?_⟩
  · rw [stepV_keys] at hx
    obtain ⟨f, hf, hk⟩ := List.mem_map.1 hx
    exact hno f hf hk
  · rw [List.map_append, List.nodup_append]
    refine ⟨h.nd, by simp, fun a ha b hb' => ?_⟩
    obtain ⟨f, hf, rfl⟩ := List.mem_map.1 ha
    simp at hb'
    rw [hb']
    exact hno f hf
  · rw [List.mem_append, List.mem_singleton, h.mem f]
    constructor
    · rintro (⟨j, hj, h1, h2, h3⟩ | rfl)
      · exact ⟨j, hj, push_has.2 (.inl h1), h2, h3⟩
      · exact ⟨i, hi, push_has.2 (.inr rfl), he.symm, hb⟩
    · rintro ⟨j, hj, h1, h2, h3⟩
      rcases push_has.1 h1 with h4 | h4
      · exact .inl ⟨j, hj, h4, h2, h3⟩
      · subst h4
        exact .inr (by rw [he, h2])
theorem SeenI.done {l t : List Ed} {seen : Array Nat} {l' : List Ed} (h : SeenI l t seen l') (hl : (l.map (·.a)).Nodup) (hall : ∀ i, i < l.length → seen.contains i = true) : l'.Perm (cutE l t) := by
  refine perm_both (nodup_keys h.nd) ((nodup_keys hl).filter _) fun e => ?_
  unfold cutE
  rw [h.mem e, List.mem_filter]
  constructor
  · rintro ⟨i, hi, -, rfl, h2⟩
    exact ⟨List.getElem_mem hi, by simpa using h2⟩
  · rintro ⟨h1, h2⟩
    obtain ⟨i, hi, rfl⟩ := List.getElem_of_mem h1
    exact ⟨i, hi, hall i hi, rfl, by simpa using h2⟩
theorem stepV_get {l : List Ed} {i : Nat} (hi : i < (stepV l).length) : ∃ h : i < l.length, (stepV l)[i].1 = l[i].a ∧ (stepV l)[i].2 = encP l[i].b := by
  refine ⟨by rw [stepV_len] at hi; exact hi, ?_, ?_⟩ <;> simp [stepV]
set_option maxRecDepth 100000 in
set_option maxHeartbeats 1600000 in
theorem without_any (l t : List Ed) (bs bt : Nat) (w : World) (hs : MapB w bs encP (stepV l)) (ht : MapB w bt encP (stepV t)) (hl : (l.map (·.a)).Nodup) (htn : (t.map (·.a)).Nodup) :
    Calls Tryz.prog 45 #[.map (some bs), .map (some bt)] w fun e w' => ∃ b l', e = .returned (.map (some b)) ∧ MapB w' b encP (stepV l') ∧ l'.Perm (cutE l t) ∧ w.heap.size ≤ b ∧ Below w.heap.size w w' := by
  have hmm := @run_makeMap Tryz.prog
  have hba : Below w.heap.size w (w.alloc (.map #[] 0)) := (Below.refl _ _).alloc (Nat.le_refl _) _
  have hs1 : MapB (w.alloc (.map #[] 0)) bs encP (stepV l) := hs.kept (hba.block _ hs.lt)
  have hrg : Sem.run Tryz.prog (Instr.range 64 (.map (some bs))) (w.alloc (.map #[] 0)) = .ok (.pointer (some ⟨(w.alloc (.map #[] 0)).heap.size, 0, none⟩)) ((w.alloc (.map #[] 0)).alloc (.mapIter (some bs) (stepV l).length #[] (stepV l).length)) := run_range_map Tryz.underlying64 hs1
  rw [World.size_alloc] at hrg
  obtain ⟨wo, hwo⟩ : ∃ wo, wo = (w.alloc (.map #[] 0)).alloc (.mapIter (some bs) (stepV l).length #[] (stepV l).length) := ⟨_, rfl⟩
  have hI0 : IterB wo (w.heap.size + 1) bs (stepV l).length #[] := by
    have := heap_alloc_new (w.alloc (.map #[] 0)) (.mapIter (some bs) (stepV l).length #[] (stepV l).length)
    rw [World.size_alloc] at this
    rw [hwo]
    exact this
  have hb0 : Below w.heap.size w wo := by rw [hwo]; exact hba.alloc (by simp) _
  have hm0 : MapB wo w.heap.size encP (stepV []) := by
    rw [hwo]
    have h1 := MapB.made w encP
    exact h1.kept (Below.heap_alloc _ _ _ h1.lt)
  have H0 := Lib.hid (And.intro hI0 (And.intro (hs.kept (hb0.block _ hs.lt)) (And.intro (ht.kept (hb0.block _ ht.lt)) (And.intro hm0 hb0))))
  have HN := Lib.hid (And.intro hl (And.intro htn (And.intro hs.lt ht.lt)))
  clear hba hs1 hI0 hb0 hm0 hs ht hl htn
  go_enter Tryz.func45, Tryz.ntmps45
  go_wp2_with fail
  rw [← hwo]
  clear hwo hrg hmm
  go_loopw [13] (fun _ wr => ∃ seen l', IterB wr (w.heap.size + 1) bs (stepV l).length seen ∧ MapB wr bs encP (stepV l) ∧ MapB wr bt encP (stepV t) ∧ MapB wr w.heap.size encP (stepV l') ∧ Below w.heap.size w wr ∧ Hid (SeenI l t seen l')) (fun _ wr => leftW wr (w.heap.size + 1) bs)
  case atStart => exact ⟨#[], [], H0.out.1, H0.out.2.1, H0.out.2.2.1, H0.out.2.2.2.1, H0.out.2.2.2.2, SeenI.start _ _⟩
  case round =>
    obtain ⟨seen, l', hI, em, et, eo, eB, hok⟩ := hrel
    rcases run_next_map_ (P := Tryz.prog) hI em with ⟨hall, hnx⟩ | ⟨i, hil, hsn, W', hnx, hI', em', hg', hsz', hlf⟩
    · have hP : Hid (l'.Perm (cutE l t)) := hok.out.done HN.out.1 (fun i hi => hall i (by rw [stepV_len]; exact hi))
      have HE := Lib.hid (And.intro eo eB)
      clear hok hall hI em et eo eB
      go_wp2_with fail
      go_ret
      exact ⟨w.heap.size, l', rfl, HE.out.1, hP.out, Nat.le_refl _, HE.out.2⟩
    · obtain ⟨hi2, k1, k2⟩ := stepV_get hil
      obtain ⟨e, he⟩ : ∃ e, e = l[i] := ⟨_, rfl⟩
      have hent := run_entry_map_ (P := Tryz.prog) hI' em' hil
      rw [k1, k2, ← he] at hnx hent
      have hent' : Sem.run Tryz.prog (Instr.entry (.pointer (some ⟨w.heap.size + 1, 0, none⟩))) W' = .ok (.tuple #[.agg #[.int .i64 e.a.x, .int .i64 e.a.y], .agg #[.int .i64 e.b.x, .int .i64 e.b.y]]) W' := hent
      have hnx' : ∀ ty, Sem.run Tryz.prog (Instr.next (.pointer (some ⟨w.heap.size + 1, 0, none⟩)) false ty) wr = .ok (.tuple #[.bool true, .agg #[.int .i64 e.a.x, .int .i64 e.a.y], .agg #[.int .i64 e.b.x, .int .i64 e.b.y]]) W' := hnx
      have hne : ∀ i, i ≠ w.heap.size + 1 → i < wr.heap.size → W'.heap[i]? = wr.heap[i]? := fun i h1 h2 => hg'.block i h2 (fun e => h1 (by cases e; rfl))
      have HS := Lib.hid (And.intro (And.intro hsn (And.intro he hlf)) hok.out)
      have hlk0 : ∃ (z : Pt) (tb : Bool), ((tb = true ∧ z = e.a) ↔ e.back ∈ t) ∧ ∀ V, MapB V bt encP (stepV t) → Sem.run Tryz.prog (Instr.lookup 64 (.map (some bt)) (.agg #[.int .i64 e.b.x, .int .i64 e.b.y]) true) V = .ok (.tuple #[.agg #[.int .i64 z.x, .int .i64 z.y], .bool tb]) V := by
        rcases hq : look (stepV t) e.b with _ | v
        · refine ⟨⟨0, 0⟩, false, ?_, fun V hV => run_look_out ptKey Tryz.underlying64 Tryz.zeroValue53 hV hq⟩
          refine ⟨fun h => (by simp at h), fun h => ?_⟩
          have h2 := step_look HN.out.2.1 h
          rw [show e.back.a = e.b from rfl, hq] at h2
          cases h2
        · obtain ⟨f, hf, hk, rfl⟩ := look_step hq
          refine ⟨f.b, true, ?_, fun V hV => run_look_in ptKey Tryz.underlying64 hV hq⟩
          refine ⟨fun ⟨_, h⟩ => ?_, fun h => ⟨rfl, ?_⟩⟩
          · have : e.back = f := by
              obtain ⟨fa, fb⟩ := f
              unfold Ed.back
              simp only at hk h
              rw [hk, h]
            rw [this]
            exact hf
          · rw [key_eq HN.out.2.1 hf h hk]
            rfl
      obtain ⟨z, tb, htb, hlk0⟩ := hlk0
      have fB : Below w.heap.size w W' := eB.grown hg' eB.size (fun j e => by have := Option.some.inj e; omega)
      have hBa : Below W'.heap.size W' ((W'.alloc (.cells #[.int .i64 e.a.x, .int .i64 e.a.y] 53)).alloc (.cells #[.int .i64 e.b.x, .int .i64 e.b.y] 53)) := ((Below.refl _ _).alloc (Nat.le_refl _) _).alloc (by simp) _
      have ft : MapB W' bt encP (stepV t) := et.kept (hne _ (by have := HN.out.2.2.2; omega) et.lt)
      have fo : MapB W' w.heap.size encP (stepV l') := eo.kept (hne _ (by omega) eo.lt)
      have hlk := hlk0 _ (ft.kept (hBa.block _ ft.lt))
      have hA := (Blk.new W' 53 #[.int .i64 e.a.x, .int .i64 e.a.y]).alloc (.cells #[.int .i64 e.b.x, .int .i64 e.b.y] 53)
      have hB := Blk.new (W'.alloc (.cells #[.int .i64 e.a.x, .int .i64 e.a.y] 53)) 53 #[.int .i64 e.b.x, .int .i64 e.b.y]
      rw [World.size_alloc] at hB
      have H6 := Lib.hid (And.intro (hI'.kept (hBa.block _ (Array.getElem?_eq_some_iff.1 hI').1)) (And.intro (em'.kept (hBa.block _ em'.lt)) (And.intro (ft.kept (hBa.block _ ft.lt)) (And.intro (fo.kept (hBa.block _ fo.lt)) (below_on fB (Nat.le_refl _) hBa)))))
      have HL6 : Hid (leftW ((W'.alloc (.cells #[.int .i64 e.a.x, .int .i64 e.a.y] 53)).alloc (.cells #[.int .i64 e.b.x, .int .i64 e.b.y] 53)) (w.heap.size + 1) bs < leftW wr (w.heap.size + 1) bs) := by
        show _ < _
        rw [leftW_eq H6.out.1 H6.out.2.1, ← leftW_eq hI' em']
        exact hlf
      have HK := Lib.hid (And.intro hA hB)
      have HTB := Lib.hid htb
      obtain ⟨g, hg⟩ : ∃ g, g = W'.heap.size := ⟨_, rfl⟩
      clear hnx hent hne hI em et eo eB hI' em' hg' hsz' hlf hok hsn he k1 k2 hlk0 fB ft fo hA hB htb hBa hil
      go_upto_region 5 with fail
      rw [← hg] at HK
      rw [← hg]
      obtain ⟨W6, hW6⟩ : ∃ W6, W6 = (W'.alloc (.cells #[.int .i64 e.a.x, .int .i64 e.a.y] 53)).alloc (.cells #[.int .i64 e.b.x, .int .i64 e.b.y] 53) := ⟨_, rfl⟩
      rw [← hW6] at H6 HL6 hlk HK
      rw [← hW6]
      clear hW6 hg hnx' hent'
      have a1 : W6.cell? ⟨g, 0, none⟩ = some (.int .i64 e.a.x) := by rw [Blk.cell HK.out.1 0]; rfl
      have a2 : W6.cell? ⟨g, 1, none⟩ = some (.int .i64 e.a.y) := by rw [Blk.cell HK.out.1 1]; rfl
      have b1 : W6.cell? ⟨g + 1, 0, none⟩ = some (.int .i64 e.b.x) := by rw [Blk.cell HK.out.2 0]; rfl
      have b2 : W6.cell? ⟨g + 1, 1, none⟩ = some (.int .i64 e.b.y) := by rw [Blk.cell HK.out.2 1]; rfl
      go_upto_region 6 with fail
      clear a1 a2 b1 b2
      have hb7 : Below W6.heap.size W6 (W6.alloc (.cells #[.int .i64 z.x, .int .i64 z.y] 53)) := (Below.refl _ _).alloc (Nat.le_refl _) _
      have hZ := Blk.new W6 53 #[.int .i64 z.x, .int .i64 z.y]
      have H7 := Lib.hid (And.intro (H6.out.1.kept (hb7.block _ (Array.getElem?_eq_some_iff.1 H6.out.1).1)) (And.intro (H6.out.2.1.kept (hb7.block _ H6.out.2.1.lt)) (And.intro (H6.out.2.2.1.kept (hb7.block _ H6.out.2.2.1.lt)) (And.intro (H6.out.2.2.2.1.kept (hb7.block _ H6.out.2.2.2.1.lt)) (below_on H6.out.2.2.2.2 (Nat.le_refl _) hb7)))))
      have HL7 : Hid (leftW (W6.alloc (.cells #[.int .i64 z.x, .int .i64 z.y] 53)) (w.heap.size + 1) bs < leftW wr (w.heap.size + 1) bs) := by
        show _ < _
        rw [leftW_eq H7.out.1 H7.out.2.1, ← leftW_eq H6.out.1 H6.out.2.1]
        exact HL6.out
      have hA := Blk.below HK.out.1 hb7 (Blk.lt HK.out.1)
      have hB := Blk.below HK.out.2 hb7 (Blk.lt HK.out.2)
      obtain ⟨W7, hW7⟩ : ∃ W7, W7 = W6.alloc (.cells #[.int .i64 z.x, .int .i64 z.y] 53) := ⟨_, rfl⟩
      rw [← hW7] at H7 HL7 hA hB hZ
      rw [← hW7]
      clear hW7 hb7
      obtain ⟨gz, hgz⟩ : ∃ gz, gz = W6.heap.size := ⟨_, rfl⟩
      rw [← hgz] at hZ
      rw [← hgz]
      clear hgz hlk H6 HL6 HK
      have a1 : W7.cell? ⟨g, 0, none⟩ = some (.int .i64 e.a.x) := by rw [Blk.cell hA 0]; rfl
      have a2 : W7.cell? ⟨g, 1, none⟩ = some (.int .i64 e.a.y) := by rw [Blk.cell hA 1]; rfl
      have b1 : W7.cell? ⟨g + 1, 0, none⟩ = some (.int .i64 e.b.x) := by rw [Blk.cell hB 0]; rfl
      have b2 : W7.cell? ⟨g + 1, 1, none⟩ = some (.int .i64 e.b.y) := by rw [Blk.cell hB 1]; rfl
      have z1 : W7.cell? ⟨gz, 0, none⟩ = some (.int .i64 z.x) := by rw [Blk.cell hZ 0]; rfl
      have z2 : W7.cell? ⟨gz, 1, none⟩ = some (.int .i64 z.y) := by rw [Blk.cell hZ 1]; rfl
      clear hA hB hZ
      rcases tb with _ | _
      · have HBK : Hid (e.back ∉ t) := fun h => by have := (HTB.out.2 h).1; cases this
        clear HTB
        obtain ⟨hfr, hin⟩ := HS.out.2.put HN.out.1 hi2 HS.out.1.1 HS.out.1.2.1 HBK.out
        obtain ⟨W8, hup, hm8, hg8⟩ := run_put_new ptKey Tryz.underlying64 H7.out.2.2.2.1 (encP e.b) hfr
        have hup' : Sem.run Tryz.prog (Instr.mapUpdate 64 (.map (some w.heap.size)) (.agg #[.int .i64 e.a.x, .int .i64 e.a.y]) (.agg #[.int .i64 e.b.x, .int .i64 e.b.y])) W7 = .ok () W8 := hup
        have H8 := Lib.hid (And.intro hm8 (And.intro hg8 hin))
        clear hup hm8 hg8 hin hfr
        go_wp2_with fail
        obtain ⟨hm8, hg8, hin⟩ := H8.out
        rw [← stepV_snoc] at hm8
        have hn8 : ∀ i, i ≠ w.heap.size → i < W7.heap.size → W8.heap[i]? = W7.heap[i]? := fun i h1 h2 => hg8.block i h2 (fun e => h1 (by cases e; rfl))
        obtain ⟨g1, g2, g3, g4, g5⟩ := H7.out
        have g1' : IterB W8 (w.heap.size + 1) bs (stepV l).length (seen.push i) := g1.kept (hn8 _ (by omega) (Array.getElem?_eq_some_iff.1 g1).1)
        have g2' : MapB W8 bs encP (stepV l) := g2.kept (hn8 _ (by have := HN.out.2.2.1; omega) g2.lt)
        go_roundw
        case rel => exact ⟨seen.push i, l' ++ [e], g1', g2', g3.kept (hn8 _ (by have := HN.out.2.2.2; omega) g3.lt), hm8, g5.grown hg8 g5.size (fun j e => by have := Option.some.inj e; omega), hin⟩
        case measure => rw [leftW_eq g1' g2', ← leftW_eq g1 g2]; exact HL7.out
      have hnq : ∀ V, Sem.run Tryz.prog (binOp .neq 53 (.agg #[.int .i64 z.x, .int .i64 z.y]) (.agg #[.int .i64 e.a.x, .int .i64 e.a.y])) V = .ok (.bool (!decide (z = e.a))) V := fun V => neqPt_runs z e.a V
      have hgd := fun op x y V => (eqPt_runs z e.a op x y V).2
      rcases hd : decide (z = e.a) with _ | _
      · have HBK : Hid (e.back ∉ t) := fun h => by have := (HTB.out.2 h).2; rw [decide_eq_true this] at hd; cases hd
        rw [hd] at hnq
        clear HTB hd
        obtain ⟨hfr, hin⟩ := HS.out.2.put HN.out.1 hi2 HS.out.1.1 HS.out.1.2.1 HBK.out
        obtain ⟨W8, hup, hm8, hg8⟩ := run_put_new ptKey Tryz.underlying64 H7.out.2.2.2.1 (encP e.b) hfr
        have hup' : Sem.run Tryz.prog (Instr.mapUpdate 64 (.map (some w.heap.size)) (.agg #[.int .i64 e.a.x, .int .i64 e.a.y]) (.agg #[.int .i64 e.b.x, .int .i64 e.b.y])) W7 = .ok () W8 := hup
        have H8 := Lib.hid (And.intro hm8 (And.intro hg8 hin))
        clear hup hm8 hg8 hin hfr
        go_wp2_with fail
        obtain ⟨hm8, hg8, hin⟩ := H8.out
        rw [← stepV_snoc] at hm8
        have hn8 : ∀ i, i ≠ w.heap.size → i < W7.heap.size → W8.heap[i]? = W7.heap[i]? := fun i h1 h2 => hg8.block i h2 (fun e => h1 (by cases e; rfl))
        obtain ⟨g1, g2, g3, g4, g5⟩ := H7.out
        have g1' : IterB W8 (w.heap.size + 1) bs (stepV l).length (seen.push i) := g1.kept (hn8 _ (by omega) (Array.getElem?_eq_some_iff.1 g1).1)
        have g2' : MapB W8 bs encP (stepV l) := g2.kept (hn8 _ (by have := HN.out.2.2.1; omega) g2.lt)
        go_roundw
        case rel => exact ⟨seen.push i, l' ++ [e], g1', g2', g3.kept (hn8 _ (by have := HN.out.2.2.2; omega) g3.lt), hm8, g5.grown hg8 g5.size (fun j e => by have := Option.some.inj e; omega), hin⟩
        case measure => rw [leftW_eq g1' g2', ← leftW_eq g1 g2]; exact HL7.out
      · have HBK : Hid (e.back ∈ t) := HTB.out.1 ⟨rfl, by simpa using hd⟩
        rw [hd] at hnq
        clear HTB hd
        go_wp2_with fail
        obtain ⟨g1, g2, g3, g4, g5⟩ := H7.out
        go_roundw
        case rel => exact ⟨seen.push i, l', g1, g2, g3, g4, g5, HS.out.2.skip hi2 HS.out.1.2.1 HBK.out⟩
        case measure => exact HL7.out
end Go.Proofs.YtgkcenhopmjmlaaGreat
namespace Go.Proofs.YtgkcenhopmjmlaaGreat
open Go.RowKit Go.Lib
/-- What plan.Walk has found out where its rounds end. -/
def FinW (l : List Ed) (out : List Pt) : Prop := (out.length ≠ l.length ∨ out = [] → ¬ ∃ c, CycE l c) ∧ (out.length = l.length → out ≠ [] → ∃ q, (⟨ptAt out (out.length - 1), q⟩ : Ed) ∈ l ∧ (q = ptAt out 0 → CycE l out) ∧ (q ≠ ptAt out 0 → ¬ ∃ c, CycE l c))
structure InW (l : List Ed) (seen : Array Nat) (out : List Pt) (q : Pt) : Prop where
  path : PathE l out q
  start : ∃ e ∈ l, e.a = ptAt (out ++ [q]) 0
  one : ∀ j, 0 < j → j < out.length → ptAt out j ≠ ptAt out 0
  back : 0 < out.length → q ≠ ptAt out 0
  nd : seen.toList.Nodup
  lt : ∀ i ∈ seen.toList, i < l.length
  len : seen.size = out.length
theorem InW.le {l : List Ed} {seen : Array Nat} {out : List Pt} {q : Pt} (h : InW l seen out q) : out.length ≤ l.length := by
  refine Classical.byContradiction fun hlt => ?_
  have := (perm_of_sub h.nd (l := List.range l.length) (fun i hi => List.mem_range.2 (h.lt i hi)) (by simp; have := h.len; omega)).length_eq
  simp at this
  have := h.len
  omega
theorem InW.all {l : List Ed} {seen : Array Nat} {out : List Pt} {q : Pt} (h : InW l seen out q) (ha : ∀ i, i < l.length → seen.contains i = true) : out.length = l.length := by
  have h1 := h.le
  refine Classical.byContradiction fun hne => ?_
  have := (perm_of_sub (a := List.range l.length) List.nodup_range (l := seen.toList) (fun i hi => by
    have := ha i (List.mem_range.1 hi)
    rw [Array.contains_iff_mem] at this
    exact Array.mem_toList_iff.2 this) (by simp; have := h.len; omega)).length_eq
  simp at this
  have := h.len
  omega
theorem InW.begin_ {l : List Ed} {e : Ed} (he : e ∈ l) : InW l #[] [] e.a :=
  ⟨PathE.nil _ _, ⟨e, he, rfl⟩, fun j _ hj => absurd hj (Nat.not_lt_zero _), fun h => absurd h (Nat.lt_irrefl _), List.nodup_nil, fun i hi => (by simp at hi), rfl⟩
theorem InW.fin {l : List Ed} {seen : Array Nat} {out : List Pt} {q : Pt} (h : InW l seen out q) (h0 : 0 < l.length) (ha : ∀ i, i < l.length → seen.contains i = true) : FinW l out := by
  have hl := h.all ha
  refine ⟨fun h1 => ?_, fun _ hne => ?_⟩
  · rcases h1 with h1 | h1
    · exact absurd hl h1
    · rw [h1] at hl; simp at hl; omega
  · refine ⟨q, ?_, fun hq => absurd hq (h.back (by omega)), fun _ => ?_⟩
    · have := h.path (out.length - 1) (by omega)
      rw [show out.length - 1 + 1 = out.length by omega, ptAt_app2, ptAt_app1 (by omega)] at this
      exact this
    · rintro ⟨c, hc⟩
      have := (path_on hc h.path h.start (by omega) h.back).1
      omega
/-- A round: the next corner is taken down; there is no step from it. -/
theorem InW.lost {l : List Ed} {seen : Array Nat} {out : List Pt} {q : Pt} (h : InW l seen out q) (hno : ∀ e ∈ l, e.a ≠ q) : ¬ ∃ c, CycE l c := by
  rintro ⟨c, hc⟩
  obtain ⟨e, he, hk⟩ := (path_on hc h.path h.start h.le h.back).2.1
  exact hno e he hk
theorem start_snoc {l : List Ed} {out : List Pt} {q r : Pt} (h : ∃ e ∈ l, e.a = ptAt (out ++ [q]) 0) : ∃ e ∈ l, e.a = ptAt ((out ++ [q]) ++ [r]) 0 := by
  rw [ptAt_app1 (xs := out ++ [q]) (by simp)]
  exact h
theorem one_snoc {out : List Pt} {q : Pt} (h : ∀ j, 0 < j → j < out.length → ptAt out j ≠ ptAt out 0) (hb : 0 < out.length → q ≠ ptAt out 0) : ∀ j, 0 < j → j < (out ++ [q]).length → ptAt (out ++ [q]) j ≠ ptAt (out ++ [q]) 0 := fun j h0 hj => by
  rw [List.length_append, List.length_singleton] at hj
  by_cases h1 : j < out.length
  · rw [ptAt_app1 h1, ptAt_app1 (by omega)]
    exact h j h0 h1
  · obtain rfl : j = out.length := by omega
    rw [ptAt_app2, ptAt_app1 h0]
    exact hb h0
theorem InW.next {l : List Ed} {seen : Array Nat} {out : List Pt} {q : Pt} (h : InW l seen out q) {e : Ed} (he : e ∈ l) (hk : e.a = q) {i : Nat} (hi : i < l.length) (hs : seen.contains i = false) (hne : e.b ≠ ptAt (out ++ [q]) 0) : InW l (seen.push i) (out ++ [q]) e.b := by
  refine ⟨h.path.snoc (by rw [← hk]; exact he), start_snoc h.start, one_snoc h.one h.back, fun _ => hne, ?_, fun j hj => ?_, by rw [Array.size_push, h.len]; simp⟩
  · rw [Array.toList_push, List.nodup_append]
    refine ⟨h.nd, by simp, fun a ha b hb => ?_⟩
    simp at hb
    rw [hb]
    rintro rfl
    have : seen.contains a = true := Array.contains_iff_mem.2 (Array.mem_toList_iff.1 ha)
    rw [hs] at this; cases this
  · rw [Array.toList_push, List.mem_append, List.mem_singleton] at hj
    rcases hj with hj | rfl
    · exact h.lt j hj
    · exact hi
theorem InW.came {l : List Ed} {seen : Array Nat} {out : List Pt} {q : Pt} (hkey : ∀ e ∈ l, ∀ f ∈ l, e.a = f.a → e = f) (h : InW l seen out q) {e : Ed} (he : e ∈ l) (hk : e.a = q) {i : Nat} (hi : i < l.length) (hs : seen.contains i = false) (heq : e.b = ptAt (out ++ [q]) 0) : FinW l (out ++ [q]) := by
  have hp : PathE l (out ++ [q]) e.b := h.path.snoc (by rw [← hk]; exact he)
  have hlt : out.length < l.length := by
    have h1 := h.le
    refine Classical.byContradiction fun hn => ?_
    have hsz : seen.size = l.length := by rw [h.len]; omega
    have := (perm_of_sub h.nd (l := List.range l.length) (fun i hi => List.mem_range.2 (h.lt i hi)) (by simp; omega)).mem_iff.2 (List.mem_range.2 hi)
    have : seen.contains i = true := Array.contains_iff_mem.2 (Array.mem_toList_iff.1 this)
    rw [hs] at this; cases this
  refine ⟨fun h1 => ?_, fun hl hne => ⟨e.b, ?_, fun _ => ?_, fun h2 => absurd heq h2⟩⟩
  · rintro ⟨c, hc⟩
    obtain ⟨d, d1, d2, -⟩ := cyc_start hc (start_snoc (r := e.b) h.start)
    have hd := d1.len
    have h3 := path_cyc d1 hp d2.symm (out ++ [q]).length (Nat.le_refl _) (by rw [hd]; simp; omega)
    rw [ptAt_app2, heq] at h3
    rw [ptAt_app1 (by simp)] at d2
    rw [← d2] at h3
    have h4 : 0 = (out ++ [q]).length % d.length := nodup_ptAt d1.nd d1.pos (Nat.mod_lt _ d1.pos) h3
    rcases h1 with h1 | h1
    · rw [List.length_append, List.length_singleton] at h1 h4
      rw [Nat.mod_eq_of_lt (by omega)] at h4
      omega
    · simp at h1
  · have := hp ((out ++ [q]).length - 1) (by simp)
    rw [show (out ++ [q]).length - 1 + 1 = (out ++ [q]).length by simp, ptAt_app2, ptAt_app1 (by simp)] at this
    exact this
  · rw [heq] at hp
    exact path_back hkey hne hp (one_snoc h.one h.back) hl
-- WALK
theorem run_len_map {P : Program} {α : Type} {W : World} {b : Nat} {enc : α → Value} {l : List (α × Value)} {K T E : TypeId} (ht : P.underlying T = some (.map K E)) (h : MapB W b enc l) (r : TypeId) : (Builtin.len_ #[T] r #[.map (some b)]).run P W = .ok (.int .i64 (l.length : Int)) W := by
  have hb : W.heap[b]? = some (.map (entriesOf enc l) l.length) := h
  have hz : (entriesOf enc l).size = l.length := by simp [entriesOf]
  simp [Builtin.len_, run_underlying ht, getObj, Sem.run, hb, hz, goInt]
theorem addr_at (b k : Nat) : (⟨b, 0, none⟩ : Addr).add k = ⟨b, k, none⟩ := by
  unfold Addr.add
  split
  · rename_i h; rw [h]
  · rw [Nat.zero_add]
theorem own_ptk {w : World} {base g n c : Nat} {xs : List Pt} (h : w.ownsRow base 53 2 (.slice (some ⟨g, 0, none⟩) n c) n (ptsV xs)) {k : Nat} (hk : k < n) : w.cell? ⟨g, k * 2, none⟩ = some (.int .i64 (ptAt xs k).x) ∧ w.cell? ⟨g, k * 2 + 1, none⟩ = some (.int .i64 (ptAt xs k).y) := by
  obtain ⟨-, h1, h2⟩ := (Reads.of_own h).ptA hk
  rw [addr_at] at h1 h2
  exact ⟨h1, h2⟩
def WalkPost (l : List Ed) (w : World) (e : Ending) (w' : World) : Prop := ((wayO l = none ∧ e = .returned (.slice none 0 0)) ∨ ∃ r ad c, wayO l = some r ∧ e = .returned (.slice (some ad) r.length c) ∧ w'.ownsRow w.heap.size 53 2 (.slice (some ad) r.length c) r.length (ptsV r)) ∧ Below w.heap.size w w'
set_option maxRecDepth 100000 in
set_option maxHeartbeats 3200000 in
theorem walk_any (l : List Ed) (bn : Nat) (w : World) (hm : MapB w bn encP (stepV l)) (hn : (l.map (·.a)).Nodup) (hlen : l.length ≤ 1048576) :
    Calls Tryz.prog 46 #[.map (some bn)] w (WalkPost l w) := by
  obtain ⟨i0, hi0, hz0, hz1, hz2⟩ := info_parts info_pt
  have hrg : Sem.run Tryz.prog (Instr.range 63 (.map (some bn))) w = .ok (.pointer (some ⟨w.heap.size, 0, none⟩)) (w.alloc (.mapIter (some bn) (stepV l).length #[] (stepV l).length)) := run_range_map Tryz.underlying63 hm
  obtain ⟨wo, hwo⟩ : ∃ wo, wo = w.alloc (.mapIter (some bn) (stepV l).length #[] (stepV l).length) := ⟨_, rfl⟩
  have hb0 : Below w.heap.size w wo := by rw [hwo]; exact (Below.refl _ _).alloc (Nat.le_refl _) _
  have hI0 : IterB wo w.heap.size bn (stepV l).length #[] := by rw [hwo]; exact heap_alloc_new w _
  have H0 := Lib.hid (And.intro hI0 (And.intro (hm.kept (hb0.block _ hm.lt)) hb0))
  have HN := Lib.hid (And.intro hn (And.intro hlen hm.lt))
  clear hb0 hI0 hm hn hlen
  go_enter Tryz.func46, Tryz.ntmps46
  go_upto_block 0 with fail
  rw [← hwo]
  clear hwo hrg
  go_cut [3] (fun o wx => ∃ (out : List Pt) (A : Option Addr) (c : Nat), o = .slice A out.length c ∧ wx.ownsRow w.heap.size 53 2 (.slice A out.length c) out.length (ptsV out) ∧ Hid (FinW l out) ∧ MapB wx bn encP (stepV l) ∧ Below w.heap.size w wx)
  case first =>
    go_wp2_with fail
    go_loopw [3] (fun o wr => o = .slice none 0 0 ∧ IterB wr w.heap.size bn (stepV l).length #[] ∧ MapB wr bn encP (stepV l) ∧ Below w.heap.size w wr) (fun _ _ => 0)
    case atStart => exact ⟨rfl, H0.out.1, H0.out.2.1, H0.out.2.2⟩
    case round =>
      obtain ⟨rfl, hI, em, eB⟩ := hrel
      rcases run_next_map_ (P := Tryz.prog) hI em with ⟨hall, hnx⟩ | ⟨i, hil, hsn, W', hnx, hI', em', hg', hsz', -⟩
      · have hfin : Hid (FinW l []) := by
          have h0 : l.length = 0 := by
            rcases Nat.eq_zero_or_pos l.length with h | h
            · exact h
            · have := hall 0 (by rw [stepV_len]; exact h)
              simp at this
          have hc : ¬ ∃ c, CycE l c := fun ⟨c, hc⟩ => by have h1 := hc.pos; rw [hc.len, h0] at h1; omega
          exact ⟨fun _ => hc, fun _ h => absurd rfl h⟩
        have HE := Lib.hid (And.intro em eB)
        clear hall hI em eB
        go_wp2_with fail
        go_meet
        exact ⟨[], none, 0, rfl, World.ownsRow_nil _ _ _ _, hfin, HE.out.1, HE.out.2⟩
      · obtain ⟨hi2, k1, k2⟩ := stepV_get hil
        obtain ⟨e0, he0⟩ : ∃ e, e = l[i] := ⟨_, rfl⟩
        have hent := run_entry_map_ (P := Tryz.prog) hI' em' hil
        rw [k1, k2, ← he0] at hnx hent
        have hent' : Sem.run Tryz.prog (Instr.entry (.pointer (some ⟨w.heap.size, 0, none⟩))) W' = .ok (.tuple #[.agg #[.int .i64 e0.a.x, .int .i64 e0.a.y], .agg #[.int .i64 e0.b.x, .int .i64 e0.b.y]]) W' := hent
        have hnx' : ∀ ty, Sem.run Tryz.prog (Instr.next (.pointer (some ⟨w.heap.size, 0, none⟩)) false ty) wr = .ok (.tuple #[.bool true, .agg #[.int .i64 e0.a.x, .int .i64 e0.a.y], .agg #[.int .i64 e0.b.x, .int .i64 e0.b.y]]) W' := hnx
        have fB : Below w.heap.size w W' := eB.grown hg' eB.size (fun j e => by have := Option.some.inj e; omega)
        have hmem : e0 ∈ l := by rw [he0]; exact List.getElem_mem hi2
        obtain ⟨P, hPe⟩ : ∃ P, P = e0.a := ⟨_, rfl⟩
        have hW : Below W'.heap.size W' (W'.alloc (.cells #[.int .i64 e0.a.x, .int .i64 e0.a.y] 53)) := (Below.refl _ _).alloc (Nat.le_refl _) _
        have em1 := em'.kept (hW.block _ em'.lt)
        have hK1 : PtK (W'.alloc (.cells #[.int .i64 e0.a.x, .int .i64 e0.a.y] 53)) W'.heap.size e0.a := PtK.new W' e0.a
        have hrg2 : Sem.run Tryz.prog (Instr.range 63 (.map (some bn))) (W'.alloc (.cells #[.int .i64 e0.a.x, .int .i64 e0.a.y] 53)) = .ok (.pointer (some ⟨(W'.alloc (.cells #[.int .i64 e0.a.x, .int .i64 e0.a.y] 53)).heap.size, 0, none⟩)) ((W'.alloc (.cells #[.int .i64 e0.a.x, .int .i64 e0.a.y] 53)).alloc (.mapIter (some bn) (stepV l).length #[] (stepV l).length)) := run_range_map Tryz.underlying63 em1
        have hW2 : Below (W'.alloc (.cells #[.int .i64 e0.a.x, .int .i64 e0.a.y] 53)).heap.size (W'.alloc (.cells #[.int .i64 e0.a.x, .int .i64 e0.a.y] 53)) ((W'.alloc (.cells #[.int .i64 e0.a.x, .int .i64 e0.a.y] 53)).alloc (.mapIter (some bn) (stepV l).length #[] (stepV l).length)) := (Below.refl _ _).alloc (Nat.le_refl _) _
        have hI2 : IterB ((W'.alloc (.cells #[.int .i64 e0.a.x, .int .i64 e0.a.y] 53)).alloc (.mapIter (some bn) (stepV l).length #[] (stepV l).length)) (W'.heap.size + 1) bn (stepV l).length #[] := by
          have := heap_alloc_new (W'.alloc (.cells #[.int .i64 e0.a.x, .int .i64 e0.a.y] 53)) (.mapIter (some bn) (stepV l).length #[] (stepV l).length)
          rw [World.size_alloc] at this
          exact this
        have H2 := Lib.hid (And.intro hI2 (And.intro (em1.kept (hW2.block _ em1.lt)) (And.intro (show PtK _ _ _ from Blk.below hK1 hW2 (Blk.lt hK1)) (below_on (below_on fB (Nat.le_refl _) hW) (Nat.le_refl _) hW2))))
        rw [World.size_alloc] at hrg2
        have HM := Lib.hid (And.intro hmem (List.length_pos_of_mem hmem))
        have hgw : w.heap.size ≤ W'.heap.size := fB.size
        clear hnx hent hI em eB hI' em' hg' hsz' hsn hil hi2 k1 k2 he0 hPe fB hmem hW em1 hK1 hW2 hI2
        obtain ⟨bq, hbq⟩ : ∃ bq, bq = W'.heap.size := ⟨_, rfl⟩
        go_wp2_with fail
        obtain ⟨V2, hV2⟩ : ∃ V2, V2 = (W'.alloc (.cells #[.int .i64 e0.a.x, .int .i64 e0.a.y] 53)).alloc (.mapIter (some bn) (stepV l).length #[] (stepV l).length) := ⟨_, rfl⟩
        rw [← hbq, ← hV2] at H2
        rw [← hbq] at hgw
        rw [← hbq, ← hV2]
        clear hbq hV2 hrg2 hnx' hent'
        go_loopw [3] (fun o wx => ∃ (seen : Array Nat) (out : List Pt) (q : Pt) (A : Option Addr) (c : Nat), o = .slice A out.length c ∧ wx.ownsRow w.heap.size 53 2 (.slice A out.length c) out.length (ptsV out) ∧ (∀ g, (Value.slice A out.length c).ownBlock = some g → g ≠ bq ∧ g ≠ bq + 1) ∧ IterB wx (bq + 1) bn (stepV l).length seen ∧ MapB wx bn encP (stepV l) ∧ PtK wx bq q ∧ Below w.heap.size w wx ∧ Hid (InW l seen out q)) (fun _ wx => leftW wx (bq + 1) bn)
        case atStart => exact ⟨#[], [], e0.a, none, 0, rfl, World.ownsRow_nil _ _ _ _, fun g h => by simp [Value.ownBlock] at h, H2.out.1, H2.out.2.1, H2.out.2.2.1, H2.out.2.2.2, InW.begin_ HM.out.1⟩
        case round =>
          obtain ⟨seen, out, q, A, c, rfl, hown, hne, hI, em, hP, eB, hin⟩ := hrel
          rcases run_next_map_ (P := Tryz.prog) hI em with ⟨hall, hnx⟩ | ⟨i, hil, hsn, W', hnx, hI', em', hg', hsz', hlf⟩
          · have hf : Hid (FinW l out) := hin.out.fin HM.out.2 (fun i hi => hall i (by rw [stepV_len]; exact hi))
            have HE := Lib.hid (And.intro hown (And.intro em eB))
            clear hall hin hown hne hI em hP eB
            go_wp2_with fail
            go_meet
            exact ⟨out, A, c, rfl, HE.out.1, hf, HE.out.2.1, HE.out.2.2⟩
          · have hi2 : i < l.length := by rw [← stepV_len]; exact hil
            have hbl : bq + 1 < wr.heap.size := (Array.getElem?_eq_some_iff.1 hI).1
            have hown1 : W'.ownsRow w.heap.size 53 2 (.slice A out.length c) out.length (ptsV out) := own_heap hown (fun g hg => hg'.block g (hown.lt g hg).2 (fun e => (hne g hg).2 (by cases e; rfl)))
            have hP1 : PtK W' bq q := (hg'.block _ (Blk.lt hP) (fun e => by have := Option.some.inj e; omega)).trans hP
            have fB : Below w.heap.size w W' := eB.grown hg' eB.size (fun j e => by have := Option.some.inj e; omega)
            have hol := hin.out.le
            have hol2 := HN.out.2.1
            have hfs := fB.size
            have hbl2 : bq + 1 < W'.heap.size := by rw [hsz']; exact hbl
            have H3 := Lib.hid (And.intro hown1 (And.intro hne (And.intro hI' (And.intro em' (And.intro hP1 (And.intro fB (And.intro hin (And.intro hi2 (And.intro hsn hlf)))))))))
            obtain ⟨q1, q2, -, -, -⟩ := PtK.facts hP1
            obtain ⟨K0, hK0⟩ : ∃ v, v = encP (stepV l)[i].1 := ⟨_, rfl⟩
            obtain ⟨V0, hV0⟩ : ∃ v, v = (stepV l)[i].2 := ⟨_, rfl⟩
            rw [← hK0, ← hV0] at hnx
            clear hK0 hV0 hsz' hbl hown hne hI em hP eB hI' em' hg' hP1 hin hi2 hsn hlf hil
            go_upto_region 8 with (at_builtin; refine wpList_append_any _ rfl (.tmp 17) (.tmp 19) _ rfl w.heap.size 53 i0 _ 2 16 Tryz.underlying23 hi0 hz0 hz1 hz2 rfl (by omega) (.slice A out.length c) out.length _ rfl (hown1.alloc _) (W'.alloc (.cells #[.int .i64 q.x, .int .i64 q.y] 53)).heap.size (some ⟨W'.heap.size, 0, none⟩) 1 1 (ptsV [q]) rfl (Reads.made W' _ _ _ 2 1 _ rfl rfl) (ptsV_one _) (by simp only [maxLen]; omega) (by omega) (by simp; omega) ?_; intro v6 w6 hown6 hg6 hat6)
            obtain ⟨hown1, hne, hI', em', hP1, fB, hin, hi2, hsn, hlf⟩ := H3.out
            have keep : ∀ g, g < W'.heap.size → (Value.slice A out.length c).ownBlock ≠ some g → w6.heap[g]? = W'.heap[g]? := fun g h1 h2 => (hg6.block g (by simp; omega) (fun e => h2 e.symm)).trans (Below.heap_alloc _ _ g h1)
            have hfz : ∀ {p : Addr}, p.block < W'.heap.size → (Value.slice A out.length c).ownBlock ≠ some p.block → w6.frozen? p = W'.frozen? p := fun {p} h1 h2 => World.frozen?_of_block (keep p.block h1 h2)
            have nbq : (Value.slice A out.length c).ownBlock ≠ some bq := fun e => (hne bq e).1 rfl
            have nb1 : (Value.slice A out.length c).ownBlock ≠ some (bq + 1) := fun e => (hne _ e).2 rfl
            have nbn : (Value.slice A out.length c).ownBlock ≠ some bn := fun e => by have := (hown1.lt bn e).1; have := HN.out.2.2; omega
            have gI : IterB w6 (bq + 1) bn (stepV l).length (seen.push i) := hI'.kept (keep _ hbl2 nb1)
            have gM : MapB w6 bn encP (stepV l) := em'.kept (keep _ em'.lt nbn)
            have gP : PtK w6 bq q := (keep _ (by omega) nbq).trans hP1
            have gB : Below w.heap.size w w6 := (fB.alloc fB.size _).grown hg6 (by simp; omega) (fun g hg => (hown1.lt g hg).1)
            have hne6 : ∀ g, v6.ownBlock = some g → g ≠ bq ∧ g ≠ bq + 1 := fun g hg => by
              rcases hat6 with h | h
              · exact hne g (h ▸ hg)
              · rw [hg] at h; have := Option.some.inj h; simp at this; omega
            rw [← ptsV_append, show ptsV (out ++ [q]) = ptsV (out ++ [q]) from rfl] at hown6
            obtain ⟨g6, c6, rfl, -, -⟩ := hown6.form (by omega)
            have hgb : g6 ≠ bq := (hne6 g6 rfl).1
            have hg6l := (hown6.lt g6 rfl).2
            obtain ⟨h0, hh0⟩ : ∃ h0, h0 = ptAt (out ++ [q]) 0 := ⟨_, rfl⟩
            have c60 : w6.cell? ⟨g6, 0, none⟩ = some (.int .i64 h0.x) := by rw [hh0]; exact (own_ptk hown6 (k := 0) (by omega)).1
            have c61 : w6.cell? ⟨g6, 1, none⟩ = some (.int .i64 h0.y) := by rw [hh0]; exact (own_ptk hown6 (k := 0) (by omega)).2
            have hmlt : leftW w6 (bq + 1) bn < leftW wr (bq + 1) bn := by rw [leftW_eq gI gM, ← leftW_eq hI' em']; exact hlf
            have H6 := Lib.hid (And.intro hown6 (And.intro hne6 (And.intro gI (And.intro gM (And.intro gP (And.intro gB (And.intro hin (And.intro hi2 (And.intro hsn (And.intro hmlt hh0))))))))))
            have f1 := Blk.frozen gP 0
            have f2 := Blk.frozen gP 1
            clear q1 q2
            obtain ⟨q1, q2, -, -, -⟩ := PtK.facts gP
            have hgl := gI
            clear keep hfz nbq nb1 nbn gI gP gB hne6 hown1 hne hI' em' hP1 fB hin hi2 hsn hlf hown6 hg6 hat6 hmlt hh0 hgl hnx H3 hfs
            rcases hq : look (stepV l) q with _ | v
            · have hlk : Sem.run Tryz.prog (Instr.lookup 63 (.map (some bn)) (.agg #[.int .i64 q.x, .int .i64 q.y]) true) w6 = .ok (.tuple #[.agg #[.int .i64 0, .int .i64 0], .bool false]) w6 := run_look_out ptKey Tryz.underlying63 Tryz.zeroValue53 gM hq
              have hno : Hid (wayO l = none) := wayO_none (H6.out.2.2.2.2.2.2.1.out.lost fun e he hk => by
                have := step_look HN.out.1 he
                rw [hk, hq] at this
                cases this)
              clear hq gM c60 c61
              go_wp2_with fail
              go_ret
              exact ⟨.inl ⟨hno.out, rfl⟩, (H6.out.2.2.2.2.2.1.setCell (p := ⟨bq, 0, none⟩) hgw _).setCell (p := ⟨bq, 1, none⟩) hgw _⟩
            · obtain ⟨e, he, hk, rfl⟩ := look_step hq
              have hlk : Sem.run Tryz.prog (Instr.lookup 63 (.map (some bn)) (.agg #[.int .i64 q.x, .int .i64 q.y]) true) w6 = .ok (.tuple #[.agg #[.int .i64 e.b.x, .int .i64 e.b.y], .bool true]) w6 := run_look_in ptKey Tryz.underlying63 gM hq
              obtain ⟨V, hV⟩ : ∃ V, (w6.setCell ⟨bq, 0, none⟩ (.int .i64 e.b.x)).setCell ⟨bq, 1, none⟩ (.int .i64 e.b.y) = V := ⟨_, rfl⟩
              have hkeep : ∀ g, g ≠ bq → V.heap[g]? = w6.heap[g]? := fun g hg => by rw [← hV, Below.heap_setCell _ _ _ g (by simpa using hg), Below.heap_setCell _ _ _ g (by simpa using hg)]
              have hPV : PtK V bq e.b := by
                have := Blk.set_ (Blk.set_ H6.out.2.2.2.2.1 0 (.int .i64 e.b.x)) 1 (.int .i64 e.b.y)
                simp only [List.setIfInBounds_toArray, List.set_cons_zero, List.set_cons_succ] at this
                rw [hV] at this
                exact this
              have hVB : Below w.heap.size w V := by rw [← hV]; exact (H6.out.2.2.2.2.2.1.setCell (p := ⟨bq, 0, none⟩) hgw _).setCell (p := ⟨bq, 1, none⟩) hgw _
              have hV0 : V.cell? ⟨g6, 0, none⟩ = some (.int .i64 h0.x) := (World.cell?_of_block (hkeep g6 hgb)).trans c60
              have hV1 : V.cell? ⟨g6, 1, none⟩ = some (.int .i64 h0.y) := (World.cell?_of_block (hkeep g6 hgb)).trans c61
              have r1 : V.cell? ⟨bq, 0, none⟩ = some (.int .i64 e.b.x) := by rw [Blk.cell hPV 0]; rfl
              have r2 : V.cell? ⟨bq, 1, none⟩ = some (.int .i64 e.b.y) := by rw [Blk.cell hPV 1]; rfl
              have gIV : IterB V (bq + 1) bn (stepV l).length (seen.push i) := H6.out.2.2.1.kept (hkeep _ (by omega))
              have gMV : MapB V bn encP (stepV l) := H6.out.2.2.2.1.kept (hkeep _ (by have := HN.out.2.2; omega))
              have hmV : leftW V (bq + 1) bn < leftW wr (bq + 1) bn := by rw [leftW_eq gIV gMV, ← leftW_eq H6.out.2.2.1 H6.out.2.2.2.1]; exact H6.out.2.2.2.2.2.2.2.2.2.1
              have hoV : V.ownsRow w.heap.size 53 2 (.slice (some ⟨g6, 0, none⟩) (out.length + 1) c6) (out.length + 1) (ptsV (out ++ [q])) := own_heap H6.out.1 (fun g hg => hkeep g (fun e' => (H6.out.2.1 g hg).1 e'))
              have hp1 := fun W => (eqPt_runs e.b h0 .eql (.tmp 0) (.tmp 0) W).1
              have hq1 := fun op x y W => (eqPt_runs e.b h0 op x y W).2
              have H7 := Lib.hid (And.intro hoV (And.intro gIV (And.intro gMV (And.intro hPV (And.intro hVB (And.intro he (And.intro hk hmV)))))))
              have hgw6 : bq ≠ g6 := fun e' => hgb e'.symm
              clear hkeep hPV hVB hoV gIV gMV hmV he hk hq gM c60 c61
              go_wp2_with fail
              clear hlk
              rcases hd : decide (e.b = h0) with _ | _
              · rw [hd] at hp1
                have HD : Hid (e.b ≠ ptAt (out ++ [q]) 0) := by
                  show e.b ≠ _
                  rw [← H6.out.2.2.2.2.2.2.2.2.2.2]
                  simpa using hd
                clear hd
                go_quiet (fail)
                go_wp2_with fail
                go_roundw
                case rel => exact ⟨seen.push i, out ++ [q], e.b, _, _, by rw [List.length_append, List.length_singleton], by rw [List.length_append, List.length_singleton]; exact H7.out.1, H6.out.2.1, H7.out.2.1, H7.out.2.2.1, H7.out.2.2.2.1, below_drewN H7.out.2.2.2.2.1 _, H6.out.2.2.2.2.2.2.1.out.next H7.out.2.2.2.2.2.1 H7.out.2.2.2.2.2.2.1 H6.out.2.2.2.2.2.2.2.1 H6.out.2.2.2.2.2.2.2.2.1 HD.out⟩
                case measure => exact H7.out.2.2.2.2.2.2.2
              · rw [hd] at hp1
                have HD : Hid (e.b = ptAt (out ++ [q]) 0) := by
                  show e.b = _
                  rw [← H6.out.2.2.2.2.2.2.2.2.2.2]
                  simpa using hd
                clear hd
                go_quiet (fail)
                go_wp2_with fail
                go_meet
                exact ⟨out ++ [q], _, _, by rw [List.length_append, List.length_singleton], by rw [List.length_append, List.length_singleton]; exact H7.out.1, InW.came (fun a ha b hb h => key_eq HN.out.1 ha hb h) H6.out.2.2.2.2.2.2.1.out H7.out.2.2.2.2.2.1 H7.out.2.2.2.2.2.2.1 H6.out.2.2.2.2.2.2.2.1 H6.out.2.2.2.2.2.2.2.2.1 HD.out, H7.out.2.2.1, below_drewN H7.out.2.2.2.2.1 _⟩
  case rest =>
    obtain ⟨out, A, c, rfl, hown, hf, em, eB⟩ := hcut
    have HE := Lib.hid (And.intro hown (And.intro em eB))
    have hlen := fun r => run_len_map (P := Tryz.prog) (W := wc.drew) (enc := encP) (l := stepV l) Tryz.underlying63 em r
    rw [stepV_len] at hlen
    have HL := Lib.hid hlen
    clear hlen
    by_cases h1 : out.length = l.length
    · have hmm : out.length ≤ 1048576 := by rw [h1]; exact HN.out.2.1
      by_cases h2 : out = []
      · have hno : Hid (wayO l = none) := wayO_none (hf.out.1 (.inr h2))
        subst h2
        have h0 : (l.length : Int) = 0 := by have : l.length = 0 := by rw [← h1]; rfl
                                             omega
        have h0' : l.length = 0 := by omega
        have hlen := HL.out
        rw [h0'] at hlen
        clear hown hf eB h1 em h0 h0'
        go_wp2_with fail
        refine wp_region_held_drew (S := fun V => V = wc.drew) (by kernel_rfl) rfl (fun hHeld => ?_)
        refine tk 0 ?_; refine tk 1 ?_; refine tk 2 ?_; refine tk 3 ?_; refine tk 4 ?_; refine tk 5 ?_; refine tk 6 ?_; refine tk 7 ?_; refine tk 8 ?_; refine tk 9 ?_; refine tk 10 ?_
        refine tu 11 ?_; refine tu 12 ?_; refine tu 13 ?_; refine tu 14 ?_; refine tu 15 ?_; refine tu 16 ?_; refine tu 17 ?_; refine tu 18 ?_; refine tu 19 ?_; refine tu 20 ?_; refine tu 21 ?_; refine tu 22 ?_
        refine tk 23 ?_
        refine wpAnyH_done (by kernel_rfl) ?_ _
        go_wp2_with fail
        go_ret
        exact ⟨.inl ⟨hno.out, rfl⟩, HE.out.2.2.drew⟩
      · obtain ⟨q, hq1, hq2, hq3⟩ := hf.out.2 h1 h2
        have hpos : 0 < out.length := List.length_pos_iff.2 h2
        obtain ⟨g, c6, e6, -, -⟩ := hown.form (by omega)
        obtain rfl : A = some ⟨g, 0, none⟩ := by cases e6; rfl
        have hgd := fun op x y V => (eqPt_runs q (ptAt out 0) op x y V).2
        have hnq : ∀ V, Sem.run Tryz.prog (binOp .neq 53 (.agg #[.int .i64 q.x, .int .i64 q.y]) (.agg #[.int .i64 (ptAt out 0).x, .int .i64 (ptAt out 0).y])) V = .ok (.bool (!decide (q = ptAt out 0))) V := fun V => neqPt_runs q (ptAt out 0) V
        obtain ⟨a1, a2⟩ := own_ptk hown (k := 0) hpos
        obtain ⟨b1, b2⟩ := own_ptk hown (k := out.length - 1) (by omega)
        have hlk : Sem.run Tryz.prog (Instr.lookup 63 (.map (some bn)) (.agg #[.int .i64 (ptAt out (out.length - 1)).x, .int .i64 (ptAt out (out.length - 1)).y]) false) wc.drew = .ok (.agg #[.int .i64 q.x, .int .i64 q.y]) wc.drew := run_look_in1 ptKey Tryz.underlying63 (show MapB wc.drew bn encP (stepV l) from em) (step_look HN.out.1 hq1)
        have hw1 : IntKind.i64.wrap ((out.length : Int) - 1) = ((out.length - 1 : Nat) : Int) := by rw [IntKind.wrap_i64]; omega
        have hlt1 : ((out.length - 1 : Nat) : Int) < (out.length : Int) := by omega
        have hlt0 : (0 : Int) < (out.length : Int) := by omega
        have h0 : ((out.length : Int) == 0) = false := by rw [beq_eq_false_iff_ne]; omega
        have HQ := Lib.hid (And.intro hq2 (And.intro hq3 (And.intro hpos hown)))
        have hlen := HL.out
        rw [← h1] at hlen
        simp only [Nat.zero_mul, Nat.zero_add] at a1 a2
        clear hown hf eB em hq1 hq2 hq3 h2 h1
        go_wp2_with fail
        refine wp_region_held_drew (S := fun V => V = wc.drew) (by kernel_rfl) rfl (fun hHeld => ?_)
        refine tk 0 ?_; refine tk 1 ?_; refine tk 2 ?_; refine tk 3 ?_; refine tk 4 ?_; refine tk 5 ?_; refine tk 6 ?_; refine tk 7 ?_; refine tk 8 ?_; refine tk 9 ?_; refine tk 10 ?_
        refine tk 11 ?_; refine tk 12 ?_; refine tk 13 ?_; refine tk 14 ?_; refine tk 15 ?_; refine tk 16 ?_
        refine tk 17 ?_; refine tk 18 ?_; refine tk 19 ?_; refine tk 20 ?_; refine tk 21 ?_; refine tk 22 ?_
        rcases hd : decide (q = ptAt out 0) with _ | _
        · have hno : Hid (wayO l = none) := wayO_none (HQ.out.2.1 (by simpa using hd))
          rw [hd] at hnq
          refine tk 23 ?_
          refine wpAnyH_done (by kernel_rfl) ?_ _
          go_wp2_with fail
          go_ret
          exact ⟨.inl ⟨hno.out, rfl⟩, HE.out.2.2.drew⟩
        · have hcy : Hid (CycE l out) := HQ.out.1 (by simpa using hd)
          rw [hd] at hnq
          refine tk 23 ?_
          refine wpAnyH_done (by kernel_rfl) ?_ _
          have hcap := own_cap HQ.out.2.2.2
          have kL := Lib.hid (leastP_any out (some ⟨g, 0, none⟩) out.length c wc.drew ((Reads.of_own HQ.out.2.2.2).drew) hcap.1 hmm)
          clear hcap
          go_wp2_with fail
          refine kL.out.mono ?_
          rintro e w2 ⟨A2, c2, rfl, ho2, hb2⟩
          have HR := Lib.hid (And.intro ho2 (below_on HE.out.2.2.drew (Nat.le_refl _) hb2))
          clear ho2 hb2 kL
          go_wp2_with fail
          go_ret
          obtain ⟨ho2, hb2⟩ := HR.out
          obtain ⟨g2, c3, e2, -, -⟩ := ho2.form hpos
          obtain rfl : A2 = some ⟨g2, 0, none⟩ := by cases e2; rfl
          have hl : (lst out).length = out.length := lst_len out
          refine ⟨.inr ⟨lst out, ⟨g2, 0, none⟩, c2, wayO_some hcy.out, by rw [hl]; rfl, ?_⟩, hb2⟩
          rw [hl]
          exact own_mono ho2 HE.out.2.2.size
    · have h1' : ((out.length : Int) != (l.length : Int)) = true := by rw [bne_iff_ne]; omega
      have hno : Hid (wayO l = none) := wayO_none (hf.out.1 (.inl h1))
      have hlen := HL.out
      clear hown hf eB h1 em
      go_wp2_with fail
      refine wp_region_held_drew (S := fun V => V = wc.drew) (by kernel_rfl) rfl (fun hHeld => ?_)
      refine tk 0 ?_; refine tk 1 ?_; refine tk 2 ?_; refine tk 3 ?_; refine tk 4 ?_; refine tk 5 ?_
      refine tu 6 ?_; refine tu 7 ?_; refine tu 8 ?_
      refine tk 9 ?_; refine tk 10 ?_
      refine tu 11 ?_; refine tu 12 ?_; refine tu 13 ?_; refine tu 14 ?_; refine tu 15 ?_; refine tu 16 ?_; refine tu 17 ?_; refine tu 18 ?_; refine tu 19 ?_; refine tu 20 ?_; refine tu 21 ?_; refine tu 22 ?_
      refine tk 23 ?_
      refine wpAnyH_done (by kernel_rfl) ?_ _
      go_wp2_with fail
      go_ret
      exact ⟨.inl ⟨hno.out, rfl⟩, HE.out.2.2.drew⟩
end Go.Proofs.YtgkcenhopmjmlaaGreat

/- Maps that a call makes: a block, as the list of its keys and values in the order in which they came; plan.edges: the walk. -/
import Derived.Carry
import Derived.Maps.RangeRun
import Derived.RangeFuncCalls
import Derived.RangeFuncLeaves
import Derived.RangeFuncNested
import Derived.WideKeyRuns
import Derived.Test.YtmegmokjjlelgaaGreatK07
import Derived.Test.YtmegmokjjlelgaaGreatK08
namespace Go.Proofs.YtmegmokjjlelgaaGreat
open Go.ChangeMaps (setBlock)
variable {α : Type} {P : Program}
/-- What a key's type has to be good for. -/
structure KeyFits [DecidableEq α] (P : Program) (K : TypeId) (enc : α → Value) : Prop where
  wide : (match P.underlying K with | some (.array _ _) | some (.struct _) => true | _ => false) = true
  eq : ∀ (x y : α) (w : World), (Op.equal K (enc x) (enc y)).run P w = .ok (decide (x = y)) w
  check : ∀ (em : Bool) (x : α) (w : World), (Instr.checkKey em 10000 K (enc x)).run P w = .ok () w
  same : ∀ x : α, Instr.sameBits 10000 (enc x) (enc x) = true
def entF (enc : α → Value) (z : (α × Value) × Nat) : MapEntry := { key := enc z.1.1, val := z.1.2, born := z.2 }
def entriesOf (enc : α → Value) (l : List (α × Value)) : Array MapEntry := (l.zipIdx.map (entF enc)).toArray
def MapB (W : World) (b : Nat) (enc : α → Value) (l : List (α × Value)) : Prop := W.heap[b]? = some (.map (entriesOf enc l) l.length)
def look [DecidableEq α] : List (α × Value) → α → Option Value
  | [], _ => none
  | (k, v) :: l, x => if x = k then some v else look l x
def findL [DecidableEq α] (x : α) : List (α × Value) → Nat → Option (Nat × Value)
  | [], _ => none
  | (k, v) :: l, i => if x = k then some (i, v) else findL x l (i + 1)
theorem findL_look [DecidableEq α] (x : α) (l : List (α × Value)) : ∀ i, (findL x l i).map (·.2) = look l x := by
  induction l with
  | nil => intro i; rfl
  | cons z l ih =>
    obtain ⟨k, v⟩ := z
    intro i
    unfold findL look
    split
    · rfl
    · exact ih (i + 1)
theorem look_none [DecidableEq α] {l : List (α × Value)} {x : α} : look l x = none ↔ x ∉ l.map (·.1) := by
  induction l with
  | nil => simp [look]
  | cons z l ih =>
    obtain ⟨k, v⟩ := z
    unfold look
    by_cases h : x = k
    · simp [h]
    · rw [if_neg h, ih]; simp [h]
theorem look_mem [DecidableEq α] {l : List (α × Value)} {x : α} {v : Value} (h : look l x = some v) : (x, v) ∈ l := by
  induction l with
  | nil => simp [look] at h
  | cons z l ih =>
    obtain ⟨k, u⟩ := z
    unfold look at h
    split at h
    · rename_i e
      simp at h
      subst e h
      simp
    · exact List.mem_cons_of_mem _ (ih h)
theorem find_runs [DecidableEq α] {K : TypeId} {enc : α → Value} (F : KeyFits P K enc) (x : α) (w : World) (l : List (α × Value)) : ∀ i, (Instr.findAsking K (enc x) ((l.zipIdx i).map (entF enc)) i).run P w = .ok (findL x l i) w := by
  induction l with
  | nil => intro i; simp [Instr.findAsking, findL]
  | cons z l ih =>
    obtain ⟨k, v⟩ := z
    intro i
    have h := F.eq x k w
    by_cases e : x = k
    · rw [decide_eq_true e] at h
      unfold findL
      rw [if_pos e]
      simp [Instr.findAsking, entF, h]
    · rw [decide_eq_false e] at h
      simp [Instr.findAsking, findL, entF, h, e]
      exact ih (i + 1)
theorem run_find [DecidableEq α] {K : TypeId} {enc : α → Value} (F : KeyFits P K enc) (x : α) (w : World) (l : List (α × Value)) : (Instr.findKey K (enc x) (entriesOf enc l).toList).run P w = .ok (findL x l 0) w := by
  rw [run_findKey_eq (w := w) F.wide]
  exact find_runs F x w l 0
theorem MapB.made (w : World) (enc : α → Value) : MapB (w.alloc (.map #[] 0)) w.heap.size enc [] := (MapKept.heap_alloc w _).1
theorem MapB.lt {W : World} {b : Nat} {enc : α → Value} {l : List (α × Value)} (h : MapB W b enc l) : b < W.heap.size := (Array.getElem?_eq_some_iff.1 h).1
theorem MapB.kept {W W' : World} {b : Nat} {enc : α → Value} {l : List (α × Value)} (h : MapB W b enc l) (he : W'.heap[b]? = W.heap[b]?) : MapB W' b enc l := he.trans h
theorem run_look_in [DecidableEq α] {K T E : TypeId} {enc : α → Value} (F : KeyFits P K enc) (ht : P.underlying T = some (.map K E)) {W : World} {b : Nat} {l : List (α × Value)} (h : MapB W b enc l) {x : α} {v : Value} (hx : look l x = some v) :
    (Instr.lookup T (.map (some b)) (enc x) true).run P W = .ok (.tuple #[v, .bool true]) W := by
  have hf := run_find F x W l
  have hl := findL_look x l 0
  rw [hx] at hl
  cases hq : findL x l 0 with
  | none => rw [hq] at hl; simp at hl
  | some z =>
    rw [hq] at hl hf
    simp at hl
    have hb : W.heap[b]? = some (.map (entriesOf enc l) l.length) := h
    simp [Instr.lookup, run_underlying ht, getObj, Sem.run, hb, F.check, hf, ← hl]
theorem run_look_out [DecidableEq α] {K T E : TypeId} {enc : α → Value} (F : KeyFits P K enc) (ht : P.underlying T = some (.map K E)) {z : Value} (hz : ∀ w, (zeroValue E).run P w = .ok z w) {W : World} {b : Nat} {l : List (α × Value)} (h : MapB W b enc l) {x : α} (hx : look l x = none) :
    (Instr.lookup T (.map (some b)) (enc x) true).run P W = .ok (.tuple #[z, .bool false]) W := by
  have hf := run_find F x W l
  have hl := findL_look x l 0
  rw [hx] at hl
  cases hq : findL x l 0 with
  | some z => rw [hq] at hl; simp at hl
  | none =>
    rw [hq] at hf
    have hb : W.heap[b]? = some (.map (entriesOf enc l) l.length) := h
    simp [Instr.lookup, run_underlying ht, getObj, Sem.run, hb, F.check, hf, hz]
theorem run_look_in1 [DecidableEq α] {K T E : TypeId} {enc : α → Value} (F : KeyFits P K enc) (ht : P.underlying T = some (.map K E)) {W : World} {b : Nat} {l : List (α × Value)} (h : MapB W b enc l) {x : α} {v : Value} (hx : look l x = some v) :
    (Instr.lookup T (.map (some b)) (enc x) false).run P W = .ok v W := by
  have hf := run_find F x W l
  have hl := findL_look x l 0
  rw [hx] at hl
  cases hq : findL x l 0 with
  | none => rw [hq] at hl; simp at hl
  | some z =>
    rw [hq] at hl hf
    simp at hl
    have hb : W.heap[b]? = some (.map (entriesOf enc l) l.length) := h
    simp [Instr.lookup, run_underlying ht, getObj, Sem.run, hb, F.check, hf, ← hl]
theorem run_look_out1 [DecidableEq α] {K T E : TypeId} {enc : α → Value} (F : KeyFits P K enc) (ht : P.underlying T = some (.map K E)) {z : Value} (hz : ∀ w, (zeroValue E).run P w = .ok z w) {W : World} {b : Nat} {l : List (α × Value)} (h : MapB W b enc l) {x : α} (hx : look l x = none) :
    (Instr.lookup T (.map (some b)) (enc x) false).run P W = .ok z W := by
  have hf := run_find F x W l
  have hl := findL_look x l 0
  rw [hx] at hl
  cases hq : findL x l 0 with
  | some z => rw [hq] at hl; simp at hl
  | none =>
    rw [hq] at hf
    have hb : W.heap[b]? = some (.map (entriesOf enc l) l.length) := h
    simp [Instr.lookup, run_underlying ht, getObj, Sem.run, hb, F.check, hf, hz]
theorem entriesOf_snoc (enc : α → Value) (l : List (α × Value)) (x : α) (v : Value) : entriesOf enc (l ++ [(x, v)]) = (entriesOf enc l).push { key := enc x, val := v, born := l.length } := by
  unfold entriesOf
  rw [List.zipIdx_append, List.map_append]
  simp [entF]
theorem run_put_new [DecidableEq α] {K T E : TypeId} {enc : α → Value} (F : KeyFits P K enc) (ht : P.underlying T = some (.map K E)) {W : World} {b : Nat} {l : List (α × Value)} (h : MapB W b enc l) {x : α} (v : Value) (hx : look l x = none) :
    ∃ W', (Instr.mapUpdate T (.map (some b)) (enc x) v).run P W = .ok () W' ∧ MapB W' b enc (l ++ [(x, v)]) ∧ W.grownBy W' (some b) := by
  have hf := run_find F x W l
  have hl := findL_look x l 0
  rw [hx] at hl
  cases hq : findL x l 0 with
  | some z => rw [hq] at hl; simp at hl
  | none =>
    rw [hq] at hf
    have hb : W.heap[b]? = some (.map (entriesOf enc l) l.length) := h
    have hlt := h.lt
    refine ⟨setBlock W b (.map (entriesOf enc (l ++ [(x, v)])) (l.length + 1)), ?_, ?_, ?_⟩
    · rw [entriesOf_snoc]
      simp [Instr.mapUpdate, run_underlying ht, getObj, setObj, Sem.run, hb, F.check, hf, setBlock]
    · unfold MapB setBlock
      simp [hlt]
    · refine ⟨rfl, rfl, rfl, by simp [setBlock], fun k hk hne => ?_⟩
      have : b ≠ k := fun e => hne (by rw [e])
      simp [setBlock, this]
def upd [DecidableEq α] (x : α) (v : Value) : List (α × Value) → List (α × Value)
  | [] => []
  | (k, u) :: l => if x = k then (k, v) :: l else (k, u) :: upd x v l
theorem upd_look [DecidableEq α] {x : α} {v u : Value} {l : List (α × Value)} (h : look l x = some u) (y : α) : look (upd x v l) y = if y = x then some v else look l y := by
  induction l with
  | nil => simp [look] at h
  | cons z l ih =>
    obtain ⟨k, u'⟩ := z
    unfold upd
    by_cases e : x = k
    · subst e
      rw [if_pos rfl]
      unfold look
      by_cases e2 : y = x <;> simp [e2]
    · rw [if_neg e]
      have h' : look l x = some u := by unfold look at h; rwa [if_neg e] at h
      unfold look
      by_cases e2 : y = k
      · subst e2
        have hne : ¬ y = x := fun h' => e h'.symm
        simp [hne]
      · rw [if_neg e2, ih h', if_neg e2]
theorem upd_len [DecidableEq α] (x : α) (v : Value) (l : List (α × Value)) : (upd x v l).length = l.length := by
  induction l with
  | nil => rfl
  | cons z l ih =>
    obtain ⟨k, u⟩ := z
    unfold upd
    split <;> simp [ih]
theorem upd_entries [DecidableEq α] (enc : α → Value) {x : α} {v : Value} {l : List (α × Value)} : ∀ {s : Nat} {i : Nat} {u : Value}, findL x l s = some (i, u) →
    s ≤ i ∧ ((l.zipIdx s).map (entF enc)).modify (i - s) (fun e => { e with key := enc x, val := v }) = ((upd x v l).zipIdx s).map (entF enc) ∧ (((l.zipIdx s).map (entF enc))[i - s]?).map (·.key) = some (enc x) := by
  induction l with
  | nil => intro s i u h; simp [findL] at h
  | cons z l ih =>
    obtain ⟨k, u'⟩ := z
    intro s i u h
    unfold findL at h
    by_cases e : x = k
    · rw [if_pos e] at h
      simp at h
      obtain ⟨rfl, rfl⟩ := h
      subst e
      refine ⟨Nat.le_refl _, ?_, by simp [entF]⟩
      unfold upd
      rw [if_pos rfl]
      simp [entF]
    · rw [if_neg e] at h
      obtain ⟨h1, h2, h3⟩ := ih h
      have hi : i - s = (i - (s + 1)) + 1 := by omega
      refine ⟨by omega, ?_, ?_⟩
      · unfold upd
        rw [if_neg e, hi]
        simp only [List.zipIdx_cons, List.map_cons, List.modify_succ_cons]
        rw [h2]
      · rw [hi]
        simpa using h3
theorem run_put_old [DecidableEq α] {K T E : TypeId} {enc : α → Value} (F : KeyFits P K enc) (ht : P.underlying T = some (.map K E)) {W : World} {b : Nat} {l : List (α × Value)} (h : MapB W b enc l) {x : α} {u : Value} (v : Value) (hx : look l x = some u) :
    ∃ W', (Instr.mapUpdate T (.map (some b)) (enc x) v).run P W = .ok () W' ∧ MapB W' b enc (upd x v l) ∧ W.grownBy W' (some b) := by
  have hf := run_find F x W l
  have hl := findL_look x l 0
  rw [hx] at hl
  cases hq : findL x l 0 with
  | none => rw [hq] at hl; simp at hl
  | some z =>
    obtain ⟨i, u'⟩ := z
    rw [hq] at hf
    obtain ⟨-, h2, h3⟩ := upd_entries enc (v := v) hq
    rw [Nat.sub_zero] at h2 h3
    have hb : W.heap[b]? = some (.map (entriesOf enc l) l.length) := h
    have hlt := h.lt
    have hk3 : ((entriesOf enc l)[i]?).map (·.key) = some (enc x) := by unfold entriesOf; simpa using h3
    have hmod : (entriesOf enc l).modify i (fun e => { e with key := enc x, val := v }) = entriesOf enc (upd x v l) := by
      unfold entriesOf
      rw [← h2]
      simp
    refine ⟨setBlock W b (.map (entriesOf enc (upd x v l)) l.length), ?_, ?_, ?_⟩
    · rw [← hmod]
      simp [Instr.mapUpdate, run_underlying ht, getObj, setObj, Sem.run, hb, F.check, hf, setBlock, hk3, Instr.keyThatStays, F.same]
    · unfold MapB setBlock
      simp [hlt, upd_len]
    · refine ⟨rfl, rfl, rfl, by simp [setBlock], fun k hk hne => ?_⟩
      have : b ≠ k := fun e => hne (by rw [e])
      simp [setBlock, this]
/-- An iterator over such a map: which places have come. -/
def IterB (W : World) (r b n : Nat) (seen : Array Nat) : Prop := W.heap[r]? = some (.mapIter (some b) n seen n)
theorem IterB.kept {W W' : World} {r b n : Nat} {seen : Array Nat} (h : IterB W r b n seen) (he : W'.heap[r]? = W.heap[r]?) : IterB W' r b n seen := he.trans h
theorem run_range_map {T K E : TypeId} (ht : P.underlying T = some (.map K E)) {W : World} {b : Nat} {enc : α → Value} {l : List (α × Value)} (h : MapB W b enc l) :
    (Instr.range T (.map (some b))).run P W = .ok (.pointer (some ⟨W.heap.size, 0, none⟩)) (W.alloc (.mapIter (some b) l.length #[] l.length)) := by
  have hb : W.heap[b]? = some (.map (entriesOf enc l) l.length) := h
  simp [Instr.range, run_underlying ht, getObj, Sem.run, hb, newObj]
theorem mem_entries {enc : α → Value} {l : List (α × Value)} {e : MapEntry} (h : e ∈ (entriesOf enc l).toList) : ∃ i, ∃ hi : i < l.length, e = { key := enc l[i].1, val := l[i].2, born := i } := by
  unfold entriesOf at h
  simp only [List.mem_map] at h
  obtain ⟨⟨⟨k, v⟩, i⟩, h1, rfl⟩ := h
  have h2 := List.mem_zipIdx' h1
  exact ⟨i, h2.1, by simp [entF, ← h2.2]⟩
theorem entries_at {enc : α → Value} {l : List (α × Value)} {i : Nat} (hi : i < l.length) : ({ key := enc l[i].1, val := l[i].2, born := i } : MapEntry) ∈ (entriesOf enc l).toList := by
  unfold entriesOf
  simp only [List.mem_map]
  exact ⟨(l[i], i), by simp [List.mem_zipIdx_iff_getElem?, hi], rfl⟩
def leftW (W : World) (r b : Nat) : Nat := match W.heap[r]?, W.heap[b]? with | some (.mapIter _ _ seen _), some (.map es _) => (leftOf es seen).size | _, _ => 0
theorem leftW_eq {W : World} {r b : Nat} {enc : α → Value} {l : List (α × Value)} {seen : Array Nat} (hi : IterB W r b l.length seen) (h : MapB W b enc l) : leftW W r b = (leftOf (entriesOf enc l) seen).size := by
  unfold leftW
  rw [show W.heap[r]? = _ from hi, show W.heap[b]? = _ from h]
/-- The next entry, whichever the tape says. -/
theorem run_next_map_ {W : World} {r b : Nat} {enc : α → Value} {l : List (α × Value)} {seen : Array Nat} (hi : IterB W r b l.length seen) (h : MapB W b enc l) :
    ((∀ i, i < l.length → seen.contains i = true) ∧ ∀ ty, (Instr.next (.pointer (some ⟨r, 0, none⟩)) false ty).run P W = .ok (.tuple #[.bool false]) W) ∨
    ∃ i, ∃ hl : i < l.length, seen.contains i = false ∧ ∃ W', (∀ ty, (Instr.next (.pointer (some ⟨r, 0, none⟩)) false ty).run P W = .ok (.tuple #[.bool true, enc l[i].1, l[i].2]) W') ∧
      IterB W' r b l.length (seen.push i) ∧ MapB W' b enc l ∧ W.grownBy W' (some r) ∧ W'.heap.size = W.heap.size ∧ leftW W' r b < leftW W r b := by
  have hold : ∀ x ∈ (entriesOf enc l).toList, x.born < l.length := fun x hx => by
    obtain ⟨i, hi, rfl⟩ := mem_entries hx
    exact hi
  have hrb : r ≠ b := fun e => by
    have h1 : W.heap[r]? = _ := hi
    have h2 : W.heap[b]? = _ := h
    rw [e, h2] at h1
    cases h1
  have hbl := h.lt
  have hrl : r < W.heap.size := (Array.getElem?_eq_some_iff.1 hi).1
  rcases run_next_at (P := P) W 0 r b l.length l.length seen (entriesOf enc l) l.length hi h hold (Nat.le_refl _) with ⟨h0, hrun⟩ | ⟨e, he, w1, hw1, hrun⟩
  · refine .inl ⟨fun i hi' => ?_, fun _ => hrun⟩
    cases hc : seen.contains i with
    | true => rfl
    | false =>
      exfalso
      have hmem : ({ key := enc l[i].1, val := l[i].2, born := i } : MapEntry) ∈ (leftOf (entriesOf enc l) seen).toList := by
        unfold leftOf
        rw [Array.mem_toList_iff, Array.mem_filter]
        exact ⟨Array.mem_toList_iff.1 (entries_at hi'), by rw [hc]; rfl⟩
      have := List.length_pos_of_mem hmem
      rw [Array.length_toList] at this
      omega
  · obtain ⟨h1, h2⟩ := mem_left he
    obtain ⟨i, hil, rfl⟩ := mem_entries h1
    have hs1 : w1.heap = W.heap := by rcases hw1 with rfl | rfl <;> rfl
    have hI : IterB (setBlock w1 r (.mapIter (some b) l.length (seen.push i) l.length)) r b l.length (seen.push i) := by
      unfold IterB setBlock
      simp [hs1, hrl]
    have hM : MapB (setBlock w1 r (.mapIter (some b) l.length (seen.push i) l.length)) b enc l := by
      refine h.kept ?_
      unfold setBlock
      simp [hs1, hrb]
    refine .inr ⟨i, hil, h2, _, fun _ => hrun, hI, hM, ?_, by simp [setBlock, hs1], ?_⟩
    · refine ⟨?_, ?_, ?_, by simp [setBlock, hs1], fun k hk hne => ?_⟩
      · rcases hw1 with rfl | rfl <;> rfl
      · rcases hw1 with rfl | rfl <;> rfl
      · rcases hw1 with rfl | rfl <;> rfl
      · have : r ≠ k := fun e => hne (by rw [e])
        simp [setBlock, hs1, this]
    · rw [leftW_eq hI hM, leftW_eq hi h]
      exact left_shrinks (entriesOf enc l) seen _ he
theorem run_entry_map_ {W : World} {r b : Nat} {enc : α → Value} {l : List (α × Value)} {seen : Array Nat} {i : Nat} (hi : IterB W r b l.length (seen.push i)) (h : MapB W b enc l) (hl : i < l.length) :
    (Instr.entry (.pointer (some ⟨r, 0, none⟩))).run P W = .ok (.tuple #[enc l[i].1, l[i].2]) W := by
  refine run_entry_at W r b l.length seen (entriesOf enc l) l.length { key := enc l[i].1, val := l[i].2, born := i } hi h (entries_at hl) ?_
  have : (entriesOf enc l).toList.map (·.born) = List.range l.length := by
    unfold entriesOf
    simp only [List.map_map]
    rw [show (MapEntry.born ∘ entF enc) = Prod.snd from rfl, List.zipIdx_map_snd]
    exact List.range_eq_range'.symm
  rw [this]
  exact List.nodup_range
end Go.Proofs.YtmegmokjjlelgaaGreat
namespace Go.Proofs.YtmegmokjjlelgaaGreat
open Go.RowKit Go.Lib
def encE (e : Ed) : Value := .agg #[.int .i64 e.a.x, .int .i64 e.a.y, .int .i64 e.b.x, .int .i64 e.b.y]
theorem check_int (d : Nat) (em : Bool) (z : Int) (w : World) : Sem.run Tryz.prog (Instr.checkKey em (d + 1) 3 (.int .i64 z)) w = .ok () w := by
  unfold Instr.checkKey
  simp [run_underlying Tryz.underlying3]
theorem check_pt (d : Nat) (em : Bool) (a b : Int) (w : World) : Sem.run Tryz.prog (Instr.checkKey em (d + 2) 44 (.agg #[.int .i64 a, .int .i64 b])) w = .ok () w := by
  have a3 := Tryz.isAgg3
  unfold Instr.checkKey
  simp [run_underlying Tryz.underlying44, part, a3, check_int]
theorem check_ed (d : Nat) (em : Bool) (e : Ed) (w : World) : Sem.run Tryz.prog (Instr.checkKey em (d + 3) 92 (encE e)) w = .ok () w := by
  have a4 := Tryz.isAgg44
  have z4 := Tryz.sizeOf44
  unfold Instr.checkKey encE
  simp [run_underlying Tryz.underlying92, part, a4, z4, check_pt]
theorem eq_ed (d : Nat) (e f : Ed) (w : World) : Sem.run Tryz.prog (Op.equalIn (d + 3) 92 (encE e) (encE f)) w = .ok (decide (e = f)) w := by
  have hS : Tryz.prog.underlying 92 = some (.struct (Tryz.prog.fieldsOf 92)) := by kernel_rfl
  have hp : Tryz.prog.stoodInHeld 92 = false := by kernel_rfl
  have a4 := Tryz.isAgg44
  have z4 := Tryz.sizeOf44
  obtain ⟨⟨x1, x2⟩, ⟨x3, x4⟩⟩ := e
  obtain ⟨⟨y1, y2⟩, ⟨y3, y4⟩⟩ := f
  unfold encE
  rw [show d + 3 = (d + 2) + 1 from rfl, run_equalIn_agg w (d + 2) 92 _ _ hS hp]
  simp only [Program.fieldsOf, Tryz.underlying92]
  go_simp
  by_cases h1 : x1 = y1 <;> by_cases h2 : x2 = y2 <;> by_cases h3 : x3 = y3 <;> by_cases h4 : x4 = y4 <;> simp [h1, h2, h3, h4]
theorem same_ed (n : Nat) (e : Ed) : Instr.sameBits (n + 1) (encE e) (encE e) = true := by
  unfold encE
  simp [Instr.sameBits]
theorem edKey : KeyFits Tryz.prog 92 encE where
  wide := by kernel_rfl
  eq e f w := eq_ed 9997 e f w
  check em e w := check_ed 9997 em e w
  same e := same_ed 9999 e
theorem eqGuard_ed (op : BinOp) (a b : Operand) (e f : Ed) (w : World) : Sem.run Tryz.prog (eqGuard op 92 a b (encE e) (encE f)) w = .ok () w := run_eqGuard_agg w op 92 a b _ _ (by kernel_rfl)
theorem eqEd_runs (op : BinOp) (a b : Operand) (e f : Ed) (w : World) : Sem.run Tryz.prog (binOp .eql 92 (encE e) (encE f)) w = .ok (.bool (decide (e = f))) w ∧ Sem.run Tryz.prog (eqGuard op 92 a b (encE e) (encE f)) w = .ok () w := by
  refine ⟨?_, eqGuard_ed op a b e f w⟩
  have h := eq_ed 9997 e f w
  unfold encE at *
  rw [run_eql_struct, show (10000 : Nat) = 9997 + 3 from rfl, h]
  rfl
end Go.Proofs.YtmegmokjjlelgaaGreat
namespace Go.Proofs.YtmegmokjjlelgaaGreat
open Go.RowKit
def Marks (B : Nat) (Ds : List Nat) (w : World) : Prop := Ds.Nodup ∧ ∀ D ∈ Ds, B ≤ D ∧ w.heap[D]? = some (.deferred (some []))
def marksL (Ds : List Nat) : List Deferred := Ds.map fun D => { target := .collected D, args := #[] }
theorem Marks.nil (B : Nat) (w : World) : Marks B [] w := ⟨List.nodup_nil, fun D h => by simp at h⟩
theorem Marks.kept {B : Nat} {Ds : List Nat} {w w' : World} (h : Marks B Ds w) (hk : ∀ D ∈ Ds, w'.heap[D]? = w.heap[D]?) : Marks B Ds w' := ⟨h.1, fun D hD => ⟨(h.2 D hD).1, (hk D hD).trans (h.2 D hD).2⟩⟩
theorem Marks.lt {B : Nat} {Ds : List Nat} {w : World} (h : Marks B Ds w) {D : Nat} (hD : D ∈ Ds) : D < w.heap.size := (Array.getElem?_eq_some_iff.1 (h.2 D hD).2).1
theorem Marks.cons {B : Nat} {Ds : List Nat} {w : World} (h : Marks B Ds w) {D : Nat} (hB : B ≤ D) (hn : D ∉ Ds) (hd : w.heap[D]? = some (.deferred (some []))) : Marks B (D :: Ds) w :=
  ⟨List.nodup_cons.2 ⟨hn, h.1⟩, fun E hE => by
    rcases List.mem_cons.1 hE with rfl | hE
    · exact ⟨hB, hd⟩
    · exact h.2 E hE⟩
theorem Marks.on {B : Nat} {Ds : List Nat} {w w' : World} (h : Marks B Ds w) (hb : Below w.heap.size w w') : Marks B Ds w' := h.kept fun _ hD => hb.block _ (h.lt hD)
theorem leaves_marks {F : Fence} {n : Nat} {P : Program} {fn : Func} {tmps : Array Value} {R : Ending → World → Prop} {B : Nat} : ∀ (Ds : List Nat) (w : World), Marks B Ds w → B ≤ w.heap.size →
    (∀ w', Below B w w' → (∀ i, i ∉ Ds → w'.heap[i]? = w.heap[i]?) → LeavesInM F n P fn tmps R [] .returning w') → LeavesInM F n P fn tmps R (marksL Ds) .returning w
  | [], w, _, _, h => h w (Below.refl _ _) fun _ _ => rfl
  | D :: Ds, w, hm, hB, h => by
    obtain ⟨hBD, hd⟩ := hm.2 D (by simp)
    obtain ⟨hn, hnd⟩ := List.nodup_cons.1 hm.1
    have hg := grownBy_putObj' w D (.deferred none)
    have hb : Below B w (w.putObj D (.deferred none)) := (Below.refl B w).grown hg hB (fun k e => by cases e; exact hBD)
    have hk : ∀ i, i ≠ D → (w.putObj D (.deferred none)).heap[i]? = w.heap[i]? := fun i hi => World.putObj_heap_other hi
    refine ⟨by simp, .inl ⟨D, _, rfl, run_takeDeferred hd, ?_⟩⟩
    refine leaves_marks Ds _ ⟨hnd, fun E hE => ⟨(hm.2 E (by simp [hE])).1, (hk E (fun e => hn (by rw [← e]; exact hE))).trans (hm.2 E (by simp [hE])).2⟩⟩ (Nat.le_trans hB hg.size) fun w' hb' hk' => ?_
    exact h w' (hb.trans hb') fun i hi => (hk' i (fun h' => hi (by simp [h']))).trans (hk i (fun e => hi (by simp [e])))
theorem marks_box {B : Nat} {Ds : List Nat} {w : World} (h : Marks B Ds w) {g : Nat} {t : TypeId} {v : Value} (b : Boxed w g t v) {D : Nat} (hD : D ∈ Ds) : D ≠ g := fun e => by
  have h1 := (h.2 D hD).2
  rw [e, show w.heap[g]? = _ from b] at h1
  cases h1
theorem mapB_from {α β : Type} {B b : Nat} (hb : b < B) (enc : α → Value) (f : β → List (α × Value)) : OwnFrom B (fun s W => MapB W b enc (f s)) := fun s X Y row hs hg hr =>
  MapB.kept hs (hg.block b (MapB.lt hs) (fun e => by have := (hr b e.symm).1; omega))
theorem marks_from {β : Type} {B B0 : Nat} {Ds : List Nat} (h : ∀ D ∈ Ds, D < B) : OwnFrom B (fun (_ : β) W => Marks B0 Ds W) := fun _ X Y row hs hg hr =>
  Marks.kept hs fun D hD => hg.block D (Marks.lt hs hD) (fun e => by have := (hr D e.symm).1; have := h D hD; omega)
end Go.Proofs.YtmegmokjjlelgaaGreat
namespace Go.Proofs.YtmegmokjjlelgaaGreat
open Go.RowKit
attribute [local go_sem] Oper.semAt_some
def edId (ps : List Parc) : List (Ed × Value) := ps.flatMap fun x => (edgesOf x.ring).map fun e => (e, .int .i64 x.id)
theorem edId_keys (ps : List Parc) : (edId ps).map (·.1) = allE ps := by
  unfold edId allE
  rw [List.map_flatMap]
  congr 1
  funext x
  simp [Function.comp_def]
theorem edId_snoc (ps : List Parc) (x : Parc) : edId (ps ++ [x]) = edId ps ++ (edgesOf x.ring).map fun e => (e, .int .i64 x.id) := by simp [edId]
def edgeK (xs : List Pt) (k : Nat) : Ed := ⟨ptAt xs k, ptAt xs ((k + 1) % xs.length)⟩
theorem edgesOf_map (xs : List Pt) : edgesOf xs = (List.range xs.length).map (edgeK xs) := rfl
theorem edgesOf_sub {xs : List Pt} {k : Nat} (h : k ≤ xs.length) : ((List.range k).map (edgeK xs)).Sublist (edgesOf xs) := by
  rw [edgesOf_map]
  exact List.Sublist.map _ (List.range_sublist.2 h)
theorem allE_take_sub {ps : List Parc} {k j : Nat} (hk : k < ps.length) (hj : j ≤ (pcAt ps k).ring.length) : (allE (ps.take k) ++ (List.range j).map (edgeK (pcAt ps k).ring)).Sublist (allE ps) := by
  have h1 : ps = ps.take k ++ (pcAt ps k :: ps.drop (k + 1)) := by
    rw [pcAt_lt hk, ← List.drop_eq_getElem_cons hk, List.take_append_drop]
  have h2 : allE ps = allE (ps.take k) ++ (edgesOf (pcAt ps k).ring ++ allE (ps.drop (k + 1))) := by
    conv => lhs; rw [h1]
    unfold allE
    rw [List.flatMap_append, List.flatMap_cons]
  rw [h2]
  exact List.Sublist.append (List.Sublist.refl _) ((edgesOf_sub hj).trans (List.sublist_append_left _ _))
set_option maxRecDepth 100000 in
set_option maxHeartbeats 3200000 in
theorem planEdges_any (ps : List Parc) (A : Option Addr) (n cap : Nat) (w : World) (hr : PIn w w.heap.size A n ps) (hn : n ≤ 8796093022208) (hf : ∀ x ∈ ps, x.fits) :
    Calls Tryz.prog 154 #[.slice A n cap] w fun e w' => ((allE ps).Nodup → ∃ b, e = .returned (.tuple #[.map (some b), .bool true]) ∧ MapB w' b encE (edId ps) ∧ w.heap.size ≤ b) ∧ (¬ (allE ps).Nodup → e = .returned (.tuple #[.map none, .bool false])) ∧ Below w.heap.size w w' := by
  have HR := Lib.hid (And.intro hr hf)
  clear hr hf
  have hmm := @run_makeMap Tryz.prog
  refine (callsIn_wide (n := 3)).1 ?_
  refine callsIn_of_wp_marks Tryz.func154 rfl trivial ?_ rfl
  simp only [Tryz.ntmps154, List.size_toArray, List.length_cons, List.length_nil, Nat.reduceAdd, Nat.reduceSub, Array.replicate_succ, Array.replicate_zero, List.push_toArray, List.append_toArray, List.nil_append, List.cons_append]
  gi_wp2_with fail
  have b0 := (((Boxed.new w 181 (.map none)).alloc (.cells #[.bool false] 4)).alloc (.map #[] 0)).alloc (.cells #[.map (some (w.heap.size + 1 + 1))] 181)
  have b1 := ((Boxed.new (w.alloc (.cells #[.map none] 181)) 4 (.bool false)).alloc (.map #[] 0)).alloc (.cells #[.map (some (w.heap.size + 1 + 1))] 181)
  have b3 := Boxed.new (((w.alloc (.cells #[.map none] 181)).alloc (.cells #[.bool false] 4)).alloc (.map #[] 0)) 181 (.map (some (w.heap.size + 1 + 1)))
  have bm : MapB ((((w.alloc (.cells #[.map none] 181)).alloc (.cells #[.bool false] 4)).alloc (.map #[] 0)).alloc (.cells #[.map (some (w.heap.size + 1 + 1))] 181)) (w.heap.size + 1 + 1) encE [] := by
    have h := MapB.made ((w.alloc (.cells #[.map none] 181)).alloc (.cells #[.bool false] 4)) encE
    simp only [World.size_alloc] at h
    exact h.kept (Below.heap_alloc _ _ _ h.lt)
  simp only [World.size_alloc] at b1 b3
  have hB0 := ((((Below.refl w.heap.size w).alloc (Nat.le_refl _) (.cells #[.map none] 181)).alloc (by simp) (.cells #[.bool false] 4)).alloc (by simp; omega) (.map #[] 0)).alloc (by simp; omega) (.cells #[.map (some (w.heap.size + 1 + 1))] 181)
  have H0 := Lib.hid (And.intro hB0 (And.intro b0 (And.intro b1 (And.intro b3 bm))))
  clear b0 b1 b3 bm hB0
  generalize (((w.alloc (.cells #[.map none] 181)).alloc (.cells #[.bool false] 4)).alloc (.map #[] 0)).alloc (.cells #[.map (some (w.heap.size + 1 + 1))] 181) = w0 at *
  refine wpIn_loop (fun a' wr => ∃ (u6 u15 u16 u17 u18 u19 u20 u34 : Value) (k : Nat) (Ds : List Nat), (k ≤ n ∧ Marks w.heap.size Ds wr ∧ Hid (allE (ps.take k)).Nodup ∧ Below w.heap.size w wr ∧ Boxed wr w.heap.size 181 (.map none) ∧ Boxed wr (w.heap.size + 1) 4 (.bool false) ∧ Boxed wr (w.heap.size + 1 + 1 + 1) 181 (.map (some (w.heap.size + 1 + 1))) ∧ MapB wr (w.heap.size + 1 + 1) encE (edId (ps.take k))) ∧
    a' = { tmps := #[.slice A n cap, undef, .pointer (some ⟨w.heap.size, 0, none⟩), .pointer (some ⟨w.heap.size + 1, 0, none⟩), .pointer (some ⟨w.heap.size + 1 + 1 + 1, 0, none⟩), undef, u6, undef, undef, undef, undef, .map (some (w.heap.size + 1 + 1)), .slice A n cap, .int .i64 (n : Int), .int .i64 (k : Int), u15, u16, u17, u18, u19, u20, undef, undef, undef, undef, undef, undef, undef, undef, undef, undef, undef, undef, undef, u34, undef], defers := marksL Ds }) (fun a' _ => n - (intOf (a'.tmps.getD 14 undef)).toNat) ?_ ?_
  · exact ⟨undef, undef, undef, undef, undef, undef, undef, undef, 0, [], ⟨Nat.zero_le _, Marks.nil _ _, List.nodup_nil, H0.out.1, H0.out.2.1, H0.out.2.2.1, H0.out.2.2.2.1, H0.out.2.2.2.2⟩, rfl⟩
  clear H0
  rintro a' wr ⟨u6, u15, u16, u17, u18, u19, u20, u34, k, Ds, ⟨hk, hmk, hnd, hbel, b0, b1, b3, bm⟩, rfl⟩
  by_cases hlt : k < n
  · have hlt' : (k : Int) < (n : Int) := by omega
    have hw1 : IntKind.i64.wrap ((k : Int) + 1) = (k : Int) + 1 := by rw [IntKind.wrap_i64]; omega
    obtain ⟨ad, rfl⟩ := HR.out.1.some_ (by omega)
    obtain ⟨-, p1, ⟨Ak, nk, ck, p2, hrk, hk1, hk2⟩, p3⟩ := (HR.out.1.below hbel).at_ hlt
    have HX := Lib.hid (And.intro hmk (And.intro hnd (And.intro hbel (And.intro b0 (And.intro b1 (And.intro b3 bm))))))
    clear hmk hnd hbel b0 b1 b3 bm
    obtain ⟨x, hx⟩ : ∃ x, x = pcAt ps k := ⟨_, rfl⟩
    rw [← hx] at p1 p3 hrk
    have HXX := Lib.hid hx
    clear hx
    have hrk' := Lib.hid hrk
    clear hrk
    gi_wp2_with fail
    refine ⟨trivial, ?_⟩
    refine (callsIn_wide.2 (edges_any Ak nk ck _)).mono ?_
    rintro e w3 ⟨rfl, rfl⟩
    gi_wp2_with fail
    have hsz : w.heap.size + 1 + 1 + 1 < wr.heap.size := HX.out.2.2.2.2.2.1.lt
    have c1 : PcK ((wr.alloc (.cells #[.int .i64 x.id, .slice Ak nk ck, .string x.owner] 40)).alloc (.cells #[.slice Ak nk ck] 23)) wr.heap.size x Ak nk ck := Blk.alloc (PcK.new wr x Ak nk ck) _
    have c2 := Boxed.new (wr.alloc (.cells #[.int .i64 x.id, .slice Ak nk ck, .string x.owner] 40)) 23 (.slice Ak nk ck)
    rw [World.size_alloc] at c2
    have hB1 : Below wr.heap.size wr ((wr.alloc (.cells #[.int .i64 x.id, .slice Ak nk ck, .string x.owner] 40)).alloc (.cells #[.slice Ak nk ck] 23)) := ((Below.refl _ _).alloc (Nat.le_refl _) _).alloc (by simp) _
    have hz1 : ((wr.alloc (.cells #[.int .i64 x.id, .slice Ak nk ck, .string x.owner] 40)).alloc (.cells #[.slice Ak nk ck] 23)).heap.size = wr.heap.size + 2 := by simp
    generalize (wr.alloc (.cells #[.int .i64 x.id, .slice Ak nk ck, .string x.owner] 40)).alloc (.cells #[.slice Ak nk ck] 23) = w1 at *
    obtain ⟨L0, hL0⟩ : ∃ L0, L0 = edId (ps.take k) := ⟨_, rfl⟩
    have hK0 : L0.map (·.1) = allE (ps.take k) := by rw [hL0, edId_keys]
    obtain ⟨hmk, hnd, hbel, b0, b1, b3, bm⟩ := HX.out
    rw [← hL0] at bm
    have hDl : ∀ D ∈ Ds, D < w1.heap.size := fun D hD => by have := hmk.lt hD; omega
    have hnk : x.ring.length = nk := hrk'.out.lenPt
    have hfx : x.fits := by rw [HXX.out, pcAt_lt (by have := HR.out.1.1; omega)]; exact HR.out.2 _ (List.getElem_mem _)
    have hlen : nk ≤ 4611686018427387904 := by have := hfx.1; omega
    have HNK := Lib.hid hnk
    clear hnk
    refine wpIn_rangeFunc_ownH rfl (by omega) (gf := 138) (lb := #[.pointer (some ⟨wr.heap.size + 1, 0, none⟩)]) rfl trivial (enters_of Tryz.func138 (by kernel_rfl) rfl)
      (edges_stopsR 2 (by omega) w.heap.size (wr.heap.size + 1) ck nk Ak x.ring hlen w1 (by omega) (by omega) c2.cell (hrk'.out.below (hB1.mono (by omega)))) (fun h k => h.trans k)
      (fun W l o o' hl h _ _ => ⟨by simp, fun i hi => World.putObj_heap_other (by omega)⟩) (Below.refl _ _) (fun _ => rfl)
      (fun pre W => (Boxed W w.heap.size 181 (.map none) ∧ Boxed W (w.heap.size + 1) 4 (.bool false) ∧ Boxed W (w.heap.size + 1 + 1 + 1) 181 (.map (some (w.heap.size + 1 + 1))) ∧ PcK W wr.heap.size x Ak nk ck ∧ Boxed W (wr.heap.size + 1) 23 (.slice Ak nk ck) ∧ (allE (ps.take k) ++ pre.map fun y => edgeK x.ring y.1).Nodup) ∧ MapB W (w.heap.size + 1 + 1) encE (L0 ++ pre.map fun y => (edgeK x.ring y.1, .int .i64 x.id)) ∧ Marks w.heap.size Ds W ∧ Below w.heap.size w W)
      (fun c pre W => (c = .ret ∧ ¬ (allE (ps.take k) ++ pre.map fun y => edgeK x.ring y.1).Nodup ∧ Boxed W w.heap.size 181 (.map none) ∧ Boxed W (w.heap.size + 1) 4 (.bool false)) ∧ Marks w.heap.size Ds W ∧ Below w.heap.size w W)
      (OwnFrom.and (Own.from (fun s X Y row hs hg hrow => ⟨boxed_own _ _ (fun _ : Unit => _) () X Y row hs.1 hg hrow, boxed_own _ _ (fun _ : Unit => _) () X Y row hs.2.1 hg hrow, boxed_own _ _ (fun _ : Unit => _) () X Y row hs.2.2.1 hg hrow, blk_own _ _ (fun _ : Unit => _) () X Y row hs.2.2.2.1 hg hrow, boxed_own _ _ (fun _ : Unit => _) () X Y row hs.2.2.2.2.1 hg hrow, hs.2.2.2.2.2⟩) _) (OwnFrom.and (mapB_from (by omega) encE _) (OwnFrom.and (marks_from hDl) (ownFrom_below (Nat.le_refl _) (by omega)))))
      (fun c => OwnFrom.and (Own.from (fun s X Y row hs hg hrow => ⟨hs.1, hs.2.1, boxed_own _ _ (fun _ : Unit => _) () X Y row hs.2.2.1 hg hrow, boxed_own _ _ (fun _ : Unit => _) () X Y row hs.2.2.2 hg hrow⟩) _) (OwnFrom.and (marks_from hDl) (ownFrom_below (Nat.le_refl _) (by omega))))
      ⟨⟨Blk.below b0 hB1 b0.lt, Blk.below b1 hB1 b1.lt, Blk.below b3 hB1 b3.lt, c1, c2, by simpa using hnd.out⟩, by simpa using bm.kept (hB1.block _ bm.lt), hmk.on hB1, below_on hbel (Nat.le_refl _) hB1⟩
      (fun y a' W => ∃ (Bx : Nat) (v15 v16 v17 v18 v19 v20 v21 v22 v34 : Value), Blk W Bx 92 #[.int .i64 (ptAt x.ring y.1).x, .int .i64 (ptAt x.ring y.1).y, .int .i64 (ptAt x.ring ((y.1 + 1) % x.ring.length)).x, .int .i64 (ptAt x.ring ((y.1 + 1) % x.ring.length)).y] ∧
        a' = { tmps := #[.slice (some ad) n cap, undef, .pointer (some ⟨w.heap.size, 0, none⟩), .pointer (some ⟨w.heap.size + 1, 0, none⟩), .pointer (some ⟨w.heap.size + 1 + 1 + 1, 0, none⟩), undef, .pointer (some ⟨wr.heap.size, 0, none⟩), undef, .pointer (some ⟨Bx, 0, none⟩), undef, undef, .map (some (w.heap.size + 1 + 1)), .slice (some ad) n cap, .int .i64 (n : Int), .int .i64 (k : Int), v15, v16, v17, v18, v19, v20, v21, v22, undef, undef, undef, undef, undef, undef, undef, undef, undef, undef, undef, v34, undef], defers := [] })
      (fun y a' => fun s X Y row ⟨Bx, v15, v16, v17, v18, v19, v20, v21, v22, v34, hs, e⟩ hg hrow => ⟨Bx, v15, v16, v17, v18, v19, v20, v21, v22, v34, blk_own Bx _ (fun _ : Unit => _) () X Y row hs hg (fun r hr => (hrow r hr).2), e⟩) ?assign ?body ?done ?stop
    case assign =>
      rintro l pre y W K ⟨⟨d0, d1, d3, dx, dr, hne⟩, dm, dk, dB⟩ hK
      unfold edgeAt edgeV
      gi_wp2
      have h1 := dr.lt
      have h2 := dB.size
      refine hK _ _ ((KeepsOthers.alloc _ _).from _) (KeepE.alloc (by omega) h1 _) ⟨⟨d0.alloc _, d1.alloc _, d3.alloc _, Blk.alloc dx _, dr.alloc _, hne⟩, dm.kept (Below.heap_alloc _ _ _ dm.lt), dk.on ((Below.refl _ _).alloc (Nat.le_refl _) _), dB.alloc dB.size _⟩ ⟨W.heap.size, _, _, _, _, _, _, _, _, _, Blk.new W _ _, rfl⟩
    case body =>
      rintro l pre ⟨y, hyn⟩ a' W hl' ⟨r, hrr⟩ ⟨⟨d0, d1, d3, dx, dr, hne⟩, dm, dk, dB⟩ ⟨Bx, v15, v16, v17, v18, v19, v20, v21, v22, v34, hBx, rfl⟩ hlen'
      obtain ⟨e, he⟩ : ∃ e, e = edgeK x.ring y := ⟨_, rfl⟩
      have he1 : e.a = ptAt x.ring y := by rw [he]; rfl
      have he2 : e.b = ptAt x.ring ((y + 1) % x.ring.length) := by rw [he]; rfl
      simp only [← he1, ← he2] at hBx
      clear he1 he2
      have HE := Lib.hid he
      clear he
      have HY := Lib.hid (And.intro d0 (And.intro d1 (And.intro d3 (And.intro dx (And.intro dr (And.intro hne (And.intro dk dB)))))))
      have x1 : W.cell? ⟨Bx, 0, none⟩ = some (.int .i64 e.a.x) := by rw [Blk.cell hBx 0]; rfl
      have x2 : W.cell? ⟨Bx, 1, none⟩ = some (.int .i64 e.a.y) := by rw [Blk.cell hBx 1]; rfl
      have x3 : W.cell? ⟨Bx, 2, none⟩ = some (.int .i64 e.b.x) := by rw [Blk.cell hBx 2]; rfl
      have x4 : W.cell? ⟨Bx, 3, none⟩ = some (.int .i64 e.b.y) := by rw [Blk.cell hBx 3]; rfl
      have x5 := d3.cell
      obtain ⟨y1, y2, y3, -⟩ := dx.facts
      have hgl := dm.lt
      have hk0 : (L0 ++ pre.map fun y => (edgeK x.ring y.1, Value.int .i64 x.id)).map (·.1) = allE (ps.take k) ++ pre.map fun y => edgeK x.ring y.1 := by rw [List.map_append, hK0, List.map_map]; rfl
      rcases hq : look (L0 ++ pre.map fun y => (edgeK x.ring y.1, Value.int .i64 x.id)) e with _ | v
      · have hlk : Sem.run Tryz.prog (Instr.lookup 181 (.map (some (w.heap.size + 1 + 1))) (.agg #[.int .i64 e.a.x, .int .i64 e.a.y, .int .i64 e.b.x, .int .i64 e.b.y]) true) W = .ok (.tuple #[.int .i64 0, .bool false]) W := run_look_out edKey Tryz.underlying181 Tryz.zeroValue3 dm hq
        obtain ⟨W', hup, hm', hg'⟩ := run_put_new edKey Tryz.underlying181 dm (.int .i64 x.id) hq
        have hup' : Sem.run Tryz.prog (Instr.mapUpdate 181 (.map (some (w.heap.size + 1 + 1))) (.agg #[.int .i64 e.a.x, .int .i64 e.a.y, .int .i64 e.b.x, .int .i64 e.b.y]) (.int .i64 x.id)) W = .ok () W' := hup
        have hnot : e ∉ allE (ps.take k) ++ pre.map fun y => edgeK x.ring y.1 := by rw [← hk0]; exact look_none.1 hq
        have HZ := Lib.hid (And.intro hm' (And.intro hg' hnot))
        have HDM := Lib.hid dm
        clear d0 d1 d3 dx dr hne dk dB dm hBx hq hup hm' hg' hnot hk0
        gi_wp2_with fail
        obtain ⟨e0, e1, e3, ex, er, hne, ek, eB⟩ := HY.out
        obtain ⟨hm', hg', hnot⟩ := HZ.out
        have hbb : ∀ i, i < W.heap.size → i ≠ w.heap.size + 1 + 1 → W'.heap[i]? = W.heap[i]? := fun i hi hne' => hg'.block i hi (fun e => hne' (by cases e; rfl))
        refine ⟨KeepsFrom.of_grownBy hg' (fun j e => by have := Option.some.inj e; omega), ⟨hg'.size, fun i hi => hbb i (by have := er.lt; omega) (by omega)⟩, ⟨e0.kept hg' (fun e => by have := Option.some.inj e; omega), e1.kept hg' (fun e => by have := Option.some.inj e; omega), e3.kept hg' (fun e => by have := Option.some.inj e; omega), (hbb _ (Blk.lt ex) (by omega)).trans ex, er.kept hg' (fun e => by have := Option.some.inj e; omega), ?_⟩, ?_, ek.kept fun D hD => hbb D (ek.lt hD) (fun e' => ?_), eB.grown hg' eB.size (fun j e => by have := Option.some.inj e; omega)⟩
        · rw [List.map_append, ← List.append_assoc, List.nodup_append]
          refine ⟨hne, by simp, fun p hp q hq e' => ?_⟩
          simp at hq
          rw [hq, ← HE.out] at e'
          exact hnot (e' ▸ hp)
        · rw [List.map_append, ← List.append_assoc, List.map_singleton, ← HE.out]
          exact hm'
        · have h1 := (ek.2 D hD).2
          rw [e'] at h1
          rw [show W.heap[w.heap.size + 1 + 1]? = _ from HDM.out] at h1
          cases h1
      · have hlk : Sem.run Tryz.prog (Instr.lookup 181 (.map (some (w.heap.size + 1 + 1))) (.agg #[.int .i64 e.a.x, .int .i64 e.a.y, .int .i64 e.b.x, .int .i64 e.b.y]) true) W = .ok (.tuple #[v, .bool true]) W := run_look_in edKey Tryz.underlying181 dm hq
        have hin : e ∈ allE (ps.take k) ++ pre.map fun y => edgeK x.ring y.1 := by rw [← hk0]; exact List.mem_map.2 ⟨_, look_mem hq, rfl⟩
        have HZ := Lib.hid hin
        have z0 := d0.cell
        have z1 := d0.frozen
        have z2 := d1.cell
        have z3 := d1.frozen
        clear d0 d1 d3 dx dr hne dk dB dm hBx hq hin hk0
        gi_wp2_with fail
        obtain ⟨e0, e1, -, -, -, -, ek, eB⟩ := HY.out
        refine ⟨((KeepsOthers.setCell _ _ _).trans (KeepsOthers.setCell _ _ _)).from _, ⟨rfl, ?_, (e0.set _).other (by omega) _, (e1.other (by omega) _).set _⟩, ek.kept fun D hD => ?_, (eB.setCell (p := ⟨w.heap.size, 0, none⟩) (Nat.le_refl _) _).setCell (p := ⟨w.heap.size + 1, 0, none⟩) (by simp) _⟩
        · intro hnd'
          rw [List.map_append, ← List.append_assoc, List.nodup_append] at hnd'
          exact hnd'.2.2 _ HZ.out _ (by simp) HE.out
        · rw [Below.heap_setCell _ _ _ D (marks_box ek e1 hD), Below.heap_setCell _ _ _ D (marks_box ek e0 hD)]
    case done =>
      rintro D ys W hD hys ⟨⟨d0, d1, d3, dx, dr, hne⟩, dm, dk, dB⟩ hK
      have hmap : ∀ {β : Type} (f : Nat → β), (ys.map fun y => f y.1) = (List.range nk).map f := fun f => by rw [← hys, List.map_map]; rfl
      rw [hmap (edgeK x.ring)] at hne
      rw [hmap (fun y => (edgeK x.ring y, Value.int .i64 x.id))] at dm
      have hxk : ps.take (k + 1) = ps.take k ++ [x] := by
        have hlk : k < ps.length := by have := HR.out.1.1; omega
        rw [List.take_succ_eq_append_getElem hlk, HXX.out, pcAt_lt hlk]
      have hnd2 : (allE (ps.take (k + 1))).Nodup := by
        rw [hxk]
        unfold allE at hne ⊢
        rw [List.flatMap_append, List.flatMap_singleton, edgesOf_map, HNK.out]
        exact hne
      have hm2 : MapB W (w.heap.size + 1 + 1) encE (edId (ps.take (k + 1))) := by
        rw [hxk, edId_snoc, ← hL0, edgesOf_map, HNK.out, List.map_map]
        exact dm
      have hmk2 : Marks w.heap.size (D :: Ds) W := dk.cons (by omega) (fun h => by have := hDl D h; omega) hK
      have HD := Lib.hid (And.intro hmk2 (And.intro hnd2 (And.intro dB (And.intro d0 (And.intro d1 (And.intro d3 hm2))))))
      clear hne dm hnd2 hm2 hmk2 hxk hmap hys dk dB d0 d1 d3 dx dr hK
      gi_wp2_with fail
      refine ⟨⟨_, _, _, _, _, _, _, _, k + 1, D :: Ds, ⟨by omega, HD.out.1, HD.out.2.1, HD.out.2.2.1, HD.out.2.2.2.1, HD.out.2.2.2.2.1, HD.out.2.2.2.2.2.1, HD.out.2.2.2.2.2.2⟩, rfl⟩, ?_⟩
      simp [intOf]; omega
    case stop =>
      rintro D c pre W hD ⟨j, hj, hpre⟩ ⟨⟨rfl, hno, d0, d1⟩, dk, dB⟩ hK
      have hmap : (pre.map fun y => edgeK x.ring y.1) = (List.range j).map (edgeK x.ring) := by rw [← hpre, List.map_map]; rfl
      rw [hmap] at hno
      have hnn : ¬ (allE ps).Nodup := fun h => hno (by
        have hlk : k < ps.length := by have := HR.out.1.1; omega
        have := allE_take_sub hlk (j := j) (by rw [← HXX.out, HNK.out]; exact hj)
        rw [← HXX.out] at this
        exact h.sublist this)
      have hmk2 : Marks w.heap.size (D :: Ds) W := dk.cons (by omega) (fun h => by have := hDl D h; omega) hK
      gi_wp2
      refine leaves_marks (D :: Ds) W hmk2 dB.size fun w' hb' hk' => ?_
      have r0 : Boxed w' w.heap.size 181 (.map none) := (hk' _ (fun h => marks_box hmk2 d0 h rfl)).trans d0
      have r1 : Boxed w' (w.heap.size + 1) 4 (.bool false) := (hk' _ (fun h => marks_box hmk2 d1 h rfl)).trans d1
      have s0 := r0.cell
      have s1 := r1.cell
      refine ⟨.tuple #[.map none, .bool false], ?_, fun h => absurd h hnn, fun _ => rfl, dB.trans hb'⟩
      simp [results, Tryz.results154, go_sem, s0, s1]
  · have hkn : k = n := by omega
    subst hkn
    have x0 := b0.cell
    have x1 := b0.frozen
    have x2 := b1.cell
    have x3 := b1.frozen
    have x4 := b3.cell
    have htk : ps.take k = ps := List.take_of_length_le (by have := HR.out.1.1; omega)
    rw [htk] at hnd bm
    have HX := Lib.hid (And.intro hmk (And.intro hnd (And.intro hbel (And.intro b0 (And.intro b1 bm)))))
    clear hmk hnd hbel b0 b1 b3 bm htk
    gi_wp2_with fail
    obtain ⟨hmk, hnd, hbel, b0, b1, bm⟩ := HX.out
    have c0 := (b0.set (.map (some (w.heap.size + 1 + 1)))).other (B' := w.heap.size + 1) (by omega) (.bool true)
    have c1 := (b1.other (B' := w.heap.size) (by omega) (.map (some (w.heap.size + 1 + 1)))).set (.bool true)
    have cm : MapB ((wr.setCell ⟨w.heap.size, 0, none⟩ (.map (some (w.heap.size + 1 + 1)))).setCell ⟨w.heap.size + 1, 0, none⟩ (.bool true)) (w.heap.size + 1 + 1) encE (edId ps) := bm.kept (by rw [Below.heap_setCell _ _ _ _ (by simp only; omega), Below.heap_setCell _ _ _ _ (by simp only; omega)])
    have hmk2 : Marks w.heap.size Ds ((wr.setCell ⟨w.heap.size, 0, none⟩ (.map (some (w.heap.size + 1 + 1)))).setCell ⟨w.heap.size + 1, 0, none⟩ (.bool true)) := hmk.kept fun D hD => by
      rw [Below.heap_setCell _ _ _ D (marks_box hmk b1 hD), Below.heap_setCell _ _ _ D (marks_box hmk b0 hD)]
    have hB2 := (hbel.setCell (p := ⟨w.heap.size, 0, none⟩) (Nat.le_refl _) (.map (some (w.heap.size + 1 + 1)))).setCell (p := ⟨w.heap.size + 1, 0, none⟩) (by simp) (.bool true)
    generalize (wr.setCell ⟨w.heap.size, 0, none⟩ (.map (some (w.heap.size + 1 + 1)))).setCell ⟨w.heap.size + 1, 0, none⟩ (.bool true) = W at *
    refine leaves_marks Ds W hmk2 hB2.size fun w' hb' hk' => ?_
    have r0 : Boxed w' w.heap.size 181 (.map (some (w.heap.size + 1 + 1))) := (hk' _ (fun h => marks_box hmk2 c0 h rfl)).trans c0
    have r1 : Boxed w' (w.heap.size + 1) 4 (.bool true) := (hk' _ (fun h => marks_box hmk2 c1 h rfl)).trans c1
    have rm : MapB w' (w.heap.size + 1 + 1) encE (edId ps) := cm.kept (hk' _ (fun h => by
      have h1 := (hmk2.2 _ h).2
      rw [show W.heap[w.heap.size + 1 + 1]? = _ from cm] at h1
      cases h1))
    have s0 := r0.cell
    have s1 := r1.cell
    refine ⟨.tuple #[.map (some (w.heap.size + 1 + 1)), .bool true], ?_, fun _ => ⟨_, rfl, rm, by omega⟩, fun h => absurd hnd.out h, hB2.trans hb'⟩
    simp [results, Tryz.results154, go_sem, s0, s1]
end Go.Proofs.YtmegmokjjlelgaaGreat

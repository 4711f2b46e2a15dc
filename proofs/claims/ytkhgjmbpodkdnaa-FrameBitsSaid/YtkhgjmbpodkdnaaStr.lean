/- string(b) of a slice of bytes that reads as a list. -/
import Derived.Test.YtkhgjmbpodkdnaaOwn8
import Derived.Test.YtkhgjmbpodkdnaaWords
import Derived.Laws.BytesString
import Derived.Laws.Cells
import Derived.Deep.RegionWith
import Derived.Deep.RegionHeld3
namespace Go.Proofs.Ytkhgjmbpodkdnaa
open Go.RowKit
theorem foldl_push (l : List UInt8) : ∀ s : ByteArray, (l.map fun b => (b.toNat : Int)).foldl (fun r n => r.push (UInt8.ofNat n.toNat)) s = ⟨s.data ++ l.toArray⟩ := by
  induction l with
  | nil => intro s; simp
  | cons b l ih =>
    intro s
    simp only [List.map_cons, List.foldl_cons]
    rw [ih]
    have : UInt8.ofNat ((b.toNat : Int)).toNat = b := by simp
    rw [this]
    simp [ByteArray.push]
theorem run_str {xs : List UInt8} {A : Option Addr} {B n c : Nat} {W : World} (h : Reads W B 1 A n (u8s xs)) :
    (convert 22 9 (.slice A n c)).run Try.prog W = .ok (.string ⟨xs.toArray⟩) W := by
  rw [run_convert_bytes_string W 22 9 5 A n c Try.underlying22 Try.underlying5 Try.underlying9]
  have hl := h.len8
  rcases A with _ | a
  · have hn : n = 0 := by
      rcases Nat.eq_zero_or_pos n with h0 | h0
      · exact h0
      · obtain ⟨ad, h, _⟩ := h.2 h0
        cases h
    subst hn
    obtain rfl := List.eq_nil_of_length_eq_zero hl
    unfold Conv.bytesToString
    simp [Sem.run_pure]
    rfl
  · have hL : (loadCells a n).run Try.prog W = .ok (((xs.map fun b => (b.toNat : Int)).map (Value.int .u8)).toArray) W := by
      rw [← hl]
      have e : xs.length = (((xs.map fun b => (b.toNat : Int)).map (Value.int .u8))).length := by simp
      rw [e]
      refine run_loadCells_list (P := Try.prog) W a _ ?_
      intro j v hv
      have hv' : (u8s xs)[j]? = some v := by rw [← hv]; simp [u8s, Function.comp_def]
      have hj : j < n := by
        have := (List.getElem?_eq_some_iff.1 hv').1
        rw [u8s_length] at this
        omega
      obtain ⟨ad, ha, _, hc⟩ := h.2 (by omega)
      cases ha
      exact hc j v hv'
    rw [run_bytesToString W a n c _ hL, foldl_push]
    simp
end Go.Proofs.Ytkhgjmbpodkdnaa

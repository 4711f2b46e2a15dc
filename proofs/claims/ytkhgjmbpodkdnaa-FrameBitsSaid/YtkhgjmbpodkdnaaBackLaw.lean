/- Plain law: what was sealed is opened; a sector of which one byte is another one has another sum. No condition. -/
import Derived.Test.YtkhgjmbpodkdnaaOpenLaw
namespace Go.Proofs.Ytkhgjmbpodkdnaa
theorem seal_take4 (b : UInt8) (d : List UInt8) : (sealB b d).take 4 = beB (crcS (restB b d)) 4 := by
  unfold sealB
  rw [List.take_left' (beB_length _ _)]
theorem seal_drop4 (b : UInt8) (d : List UInt8) : (sealB b d).drop 4 = restB b d := by
  unfold sealB
  rw [List.drop_left' (beB_length _ _)]
theorem beB_two (n : Nat) : beB n 2 = [UInt8.ofNat (n / 256 % 256), UInt8.ofNat (n % 256)] := by simp [beB]
theorem seal_cells (b : UInt8) (d : List UInt8) : ∃ a0 a1 a2 a3 : UInt8, sealB b d = [a0, a1, a2, a3, b, UInt8.ofNat (d.length / 256 % 256), UInt8.ofNat (d.length % 256)] ++ (d ++ List.replicate (505 - d.length) 0) := by
  unfold sealB restB
  rw [beB_two]
  generalize crcS _ = s
  refine ⟨UInt8.ofNat (s / 256 / 256 / 256 % 256), UInt8.ofNat (s / 256 / 256 % 256), UInt8.ofNat (s / 256 % 256), UInt8.ofNat (s % 256), ?_⟩
  simp [beB]
theorem nz_zeros (n : Nat) : nz (List.replicate n 0) = false := by
  unfold nz
  rw [List.any_eq_false]
  intro x hx
  rw [(List.mem_replicate.1 hx).2]
  decide
theorem seal_lenAt (b : UInt8) (d : List UInt8) (h : d.length ≤ 505) : lenAt (sealB b d) = d.length := by
  obtain ⟨a0, a1, a2, a3, e⟩ := seal_cells b d
  unfold lenAt
  rw [e]
  simp
  omega
theorem open_seal (b : UInt8) (d : List UInt8) (h1 : 1 ≤ b.toNat) (h2 : d.length ≤ 505) : openE (sealB b d) = 0 ∧ openK (sealB b d) = b.toNat ∧ openD (sealB b d) = d := by
  obtain ⟨a0, a1, a2, a3, e⟩ := seal_cells b d
  have hl := sealB_length b d h2
  have hs : numL ((sealB b d).take 4) = crcS ((sealB b d).drop 4) := by
    rw [seal_take4, seal_drop4, numL_beB, Nat.mod_eq_of_lt (crcS_lt _)]
  have hL := seal_lenAt b d h2
  have h4 : (sealB b d).getD 4 0 = b := by rw [e]; rfl
  have h7 : (sealB b d).drop 7 = d ++ List.replicate (505 - d.length) 0 := by rw [e]; rfl
  have hz : nz ((sealB b d).drop (7 + d.length)) = false := by
    rw [← List.drop_drop, h7, List.drop_left, nz_zeros]
  have hE : openE (sealB b d) = 0 := openE_ok hl hs (by
    rw [h4, hL, hz]
    intro hh
    rcases hh with hh | hh | hh
    · omega
    · omega
    · cases hh)
  refine ⟨hE, ?_, ?_⟩
  · unfold openK; rw [if_pos hE, h4]
  · unfold openD; rw [if_pos hE, hL, h7, List.take_left]

theorem stp_inj {a b : Nat} (ha : a < 4294967296) (hb : b < 4294967296) (h : stp a = stp b) : a = b := by
  unfold stp at h
  have ha2 : a / 2 < 2147483648 := by omega
  have hb2 : b / 2 < 2147483648 := by omega
  have top : ∀ x, x < 2147483648 → (x ^^^ 3988292384).testBit 31 = true := by
    intro x hx
    rw [Nat.testBit_xor]
    have h1 : x.testBit 31 = false := Nat.testBit_lt_two_pow (by omega)
    rw [h1]; decide
  have low : ∀ x, x < 2147483648 → (x ^^^ 0).testBit 31 = false := by
    intro x hx
    rw [Nat.xor_zero]
    exact Nat.testBit_lt_two_pow (by omega)
  have cancel : ∀ x y z : Nat, x ^^^ z = y ^^^ z → x = y := by
    intro x y z hh
    have : (x ^^^ z) ^^^ z = (y ^^^ z) ^^^ z := by rw [hh]
    simpa [Nat.xor_assoc] using this
  rcases Nat.mod_two_eq_zero_or_one a with h1 | h1 <;> rcases Nat.mod_two_eq_zero_or_one b with h2 | h2
  · rw [h1, h2] at h
    have := cancel _ _ _ h
    omega
  · rw [h1, h2] at h
    have t1 := low _ ha2
    have t2 := top _ hb2
    simp only [if_neg (show ¬ (0 : Nat) = 1 by omega), if_pos] at h
    rw [h] at t1
    rw [t1] at t2
    cases t2
  · rw [h1, h2] at h
    have t1 := top _ ha2
    have t2 := low _ hb2
    simp only [if_neg (show ¬ (0 : Nat) = 1 by omega), if_pos] at h
    rw [h] at t1
    rw [t1] at t2
    cases t2
  · rw [h1, h2] at h
    have := cancel _ _ _ h
    omega
theorem stp_lt {a : Nat} (ha : a < 4294967296) : stp a < 4294967296 := xor_lt32 (by omega) (by split <;> omega)
theorem nib_inj {a b : Nat} (ha : a < 4294967296) (hb : b < 4294967296) (h : nib a = nib b) : a = b := by
  rw [← stp4, ← stp4] at h
  exact stp_inj ha hb (stp_inj (stp_lt ha) (stp_lt hb) (stp_inj (stp_lt (stp_lt ha)) (stp_lt (stp_lt hb)) (stp_inj (stp_lt (stp_lt (stp_lt ha))) (stp_lt (stp_lt (stp_lt hb))) h)))
theorem byt_inj {a b x y : Nat} (ha : a < 4294967296) (hb : b < 4294967296) (hx : x < 256) (hy : y < 256) (h : byt a x = byt b y) : a ^^^ x = b ^^^ y := by
  have h1 := xor_lt32 ha (show x < 4294967296 by omega)
  have h2 := xor_lt32 hb (show y < 4294967296 by omega)
  exact nib_inj h1 h2 (nib_inj (nib_lt h1) (nib_lt h2) h)
theorem xor_cancel (x y z : Nat) (h : x ^^^ z = y ^^^ z) : x = y := by
  have : (x ^^^ z) ^^^ z = (y ^^^ z) ^^^ z := by rw [h]
  simpa [Nat.xor_assoc] using this
theorem fold_inj (l : List UInt8) : ∀ a b, a < 4294967296 → b < 4294967296 → l.foldl (fun c b => byt c b.toNat) a = l.foldl (fun c b => byt c b.toNat) b → a = b := by
  induction l with
  | nil => intro a b _ _ h; exact h
  | cons x l ih =>
    intro a b ha hb h
    have := ih _ _ (byt_lt ha (u8_lt x)) (byt_lt hb (u8_lt x)) h
    exact xor_cancel _ _ _ (byt_inj ha hb (u8_lt x) (u8_lt x) this)
theorem crc_set (l : List UInt8) (i : Nat) (y : UInt8) (h : i < l.length) (hne : y ≠ l[i]) : crcF (l.set i y) ≠ crcF l := by
  have e1 : l.set i y = l.take i ++ y :: l.drop (i + 1) := List.set_eq_take_append_cons_drop .. |>.trans (by rw [if_pos h])
  have e2 : l = l.take i ++ l[i] :: l.drop (i + 1) := by rw [List.getElem_cons_drop, List.take_append_drop]
  intro hc
  rw [e1] at hc
  conv at hc => rhs; rw [e2]
  unfold crcF at hc
  rw [List.foldl_append, List.foldl_append, List.foldl_cons, List.foldl_cons] at hc
  have hlt := foldl_lt (l.take i) 4294967295 (by omega)
  have h1 := fold_inj _ _ _ (byt_lt hlt (u8_lt y)) (byt_lt hlt (u8_lt l[i])) hc
  have h2 := byt_inj hlt hlt (u8_lt _) (u8_lt _) h1
  rw [Nat.xor_comm _ y.toNat, Nat.xor_comm _ l[i].toNat] at h2
  exact hne (UInt8.toNat_inj.1 (xor_cancel _ _ _ h2))
theorem crcS_set (l : List UInt8) (i : Nat) (y : UInt8) (h : i < l.length) (hne : y ≠ l[i]) : crcS (l.set i y) ≠ crcS l := by
  have h1 := crc_set l i y h hne
  have h2 := crcF_lt l
  have h3 := crcF_lt (l.set i y)
  unfold crcS
  omega
end Go.Proofs.Ytkhgjmbpodkdnaa

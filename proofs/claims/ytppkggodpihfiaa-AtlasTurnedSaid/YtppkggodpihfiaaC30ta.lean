/- Chapter 30, in plain law: what is changed, cut short or made longer is refused. -/
import Derived.Test.YtppkggodpihfiaaC30q
import Derived.Test.YtppkggodpihfiaaC30z
set_option linter.unusedVariables false
set_option linter.unusedSimpArgs false
namespace Go.Proofs.Ytppkggodpihfiaa
open Go Go.Den
theorem dec_ok {p : List UInt8} (h : decE p = 0) : 34 ≤ p.length ∧ p.take 6 = magicL ∧ ¬ Many p ∧ p.length = szP p ∧ crcN (p.take (szP p - 4)) = n4 p (szP p - 4) := by
  rcases decE_list p with ⟨_, hE⟩ | ⟨h1, ⟨_, hE⟩ | ⟨h2, ⟨_, hE⟩ | ⟨h3, ⟨_, hE⟩ | ⟨_, hE⟩ | ⟨h5, ⟨_, hE⟩ | ⟨h6, _⟩⟩⟩⟩⟩
  · rw [h] at hE; cases hE
  · rw [h] at hE; cases hE
  · rw [h] at hE; cases hE
  · rw [h] at hE; cases hE
  · rw [h] at hE; cases hE
  · rw [h] at hE; cases hE
  · exact ⟨h1, h2, h3, h5, h6⟩
theorem crcN_inj {a b : List UInt8} (h : crcN a = crcN b) : Crc.crc a = Crc.crc b := by
  unfold crcN at h
  have := BitVec.eq_of_toNat_eq h
  have e : ∀ x : BitVec 32, (x ^^^ 4294967295#32) ^^^ 4294967295#32 = x := fun x => by rw [BitVec.xor_assoc, BitVec.xor_self, BitVec.xor_zero]
  rw [← e (Crc.crc a), ← e (Crc.crc b), this]
theorem turned_no {p : List UInt8} {k : Nat} {c : UInt8} (hk : k < p.length) (h : decE p = 0) (hq : decE (p.set k c) = 0) : p[k]? = some c := by
  obtain ⟨a1, a2, a3, a4, a5⟩ := dec_ok h
  obtain ⟨b1, b2, b3, b4, b5⟩ := dec_ok hq
  rw [List.length_set] at b4
  rw [← b4] at b5
  rw [← a4] at a5
  by_cases hm : k < p.length - 4
  · have e1 : (p.set k c).take (p.length - 4) = (p.take (p.length - 4)).set k c := by rw [List.take_set]
    have e2 : n4 (p.set k c) (p.length - 4) = n4 p (p.length - 4) := by unfold n4; rw [List.drop_set_of_lt hm]
    rw [e1, e2, ← a5] at b5
    have := (Crc.crc_set (p.take (p.length - 4)) k c (by rw [List.length_take]; omega)).1 (crcN_inj b5)
    rwa [List.getElem?_take, if_pos hm] at this
  · have e1 : (p.set k c).take (p.length - 4) = p.take (p.length - 4) := by
      rw [List.take_set, List.set_eq_of_length_le (by rw [List.length_take]; omega)]
    rw [e1, a5] at b5
    have e2 := seg4 (p := p) (a := p.length - 4) (by omega)
    have e3 := seg4 (p := p.set k c) (a := p.length - 4) (by rw [List.length_set]; omega)
    rw [← b5, e2] at e3
    have := congrArg (fun l : List UInt8 => l[k - (p.length - 4)]?) e3
    unfold seg at this
    simp only [List.getElem?_take, List.getElem?_drop, if_pos (show k - (p.length - 4) < 4 by omega), show p.length - 4 + (k - (p.length - 4)) = k by omega, List.getElem?_set_self hk] at this
    exact this
theorem n2_take {p : List UInt8} {L a : Nat} (h : a + 2 ≤ L) : n2 (p.take L) a = n2 p a := by
  unfold n2; rw [List.drop_take, List.take_take, Nat.min_eq_left (by omega)]
theorem n4_take {p : List UInt8} {L a : Nat} (h : a + 4 ≤ L) : n4 (p.take L) a = n4 p a := by
  unfold n4; rw [List.drop_take, List.take_take, Nat.min_eq_left (by omega)]
theorem n2_more {p q : List UInt8} {a : Nat} (h : a + 2 ≤ p.length) : n2 (p ++ q) a = n2 p a := by
  unfold n2; rw [List.drop_append_of_le_length (by omega), List.take_append_of_le_length (by rw [List.length_drop]; omega)]
theorem n4_more {p q : List UInt8} {a : Nat} (h : a + 4 ≤ p.length) : n4 (p ++ q) a = n4 p a := by
  unfold n4; rw [List.drop_append_of_le_length (by omega), List.take_append_of_le_length (by rw [List.length_drop]; omega)]
theorem short_no {p : List UInt8} (h : decE p = 0) (hl : 35 ≤ p.length) : decE (p.take (p.length - 1)) = 3 := by
  obtain ⟨a1, a2, a3, a4, a5⟩ := dec_ok h
  have hlen : (p.take (p.length - 1)).length = p.length - 1 := by rw [List.length_take]; omega
  have hs : szP (p.take (p.length - 1)) = szP p := by unfold szP; rw [n2_take (by omega), n2_take (by omega), n2_take (by omega), n2_take (by omega), n4_take (by omega)]
  have hM : ¬ Many (p.take (p.length - 1)) := by unfold Many at a3 ⊢; rw [n2_take (by omega), n2_take (by omega), n4_take (by omega)]; exact a3
  have h6 : (p.take (p.length - 1)).take 6 = magicL := by rw [List.take_take, Nat.min_eq_left (by omega), a2]
  unfold decE
  rw [if_neg (by omega), if_neg (by simp [h6]), if_neg hM, if_pos (by rw [hlen, hs]; omega)]
theorem long_no {p : List UInt8} {c : UInt8} (h : decE p = 0) : decE (p ++ [c]) = 6 := by
  obtain ⟨a1, a2, a3, a4, a5⟩ := dec_ok h
  have hlen : (p ++ [c]).length = p.length + 1 := by simp
  have hs : szP (p ++ [c]) = szP p := by unfold szP; rw [n2_more (by omega), n2_more (by omega), n2_more (by omega), n2_more (by omega), n4_more (by omega)]
  have hM : ¬ Many (p ++ [c]) := by unfold Many at a3 ⊢; rw [n2_more (by omega), n2_more (by omega), n4_more (by omega)]; exact a3
  have h6 : (p ++ [c]).take 6 = magicL := by rw [List.take_append_of_le_length (by omega), a2]
  unfold decE
  rw [if_neg (by omega), if_neg (by simp [h6]), if_neg hM, if_neg (by rw [hlen, hs]; omega), if_pos (by rw [hlen, hs]; omega)]
end Go.Proofs.Ytppkggodpihfiaa

/- Chapter 40: glyphs that are moved: the map. -/
import Derived.Test.YtppkggodpihfiaaK40a
set_option linter.unusedVariables false
set_option linter.unusedSimpArgs false
set_option maxRecDepth 100000
set_option maxHeartbeats 4000000
namespace Go.Proofs.Ytppkggodpihfiaa
open Go Go.Den
def keyC (a b : Int) : AV := .agg [.int .i64 a, .int .i64 b]
theorem akey_c (a b c d : Int) : akey [1, 1] (keyC a b) (keyC c d) = some ((a == c) && ((b == d) && true)) := by
  simp [akey, keyC, aeqs, AV.isInt]
theorem akey_self (a b : Int) : akey [1, 1] (keyC a b) (keyC a b) = some true := by rw [akey_c]; simp
theorem afind_ps (a b : Int) : ∀ (ps : List Kn) (i : Nat), (afind [1, 1] (keyC a b) (ps.map fun p => keyC p.l p.r) i = some none ∧ ps.find? (isK a b) = none) ∨
    ∃ j q, afind [1, 1] (keyC a b) (ps.map fun p => keyC p.l p.r) i = some (some (i + j)) ∧ ps[j]? = some q ∧ ps.find? (isK a b) = some q
  | [], i => .inl ⟨rfl, rfl⟩
  | p :: ps, i => by
    simp only [List.map_cons, afind, akey_c]
    by_cases h : p.l = a ∧ p.r = b
    · refine .inr ⟨0, p, ?_, rfl, by rw [List.find?_cons_of_pos (by simp [isK, h])]⟩
      rw [h.1, h.2]; simp
    · have hf : ((a == p.l) && ((b == p.r) && true)) = false := by
        rw [Bool.eq_false_iff]; intro hh; simp at hh; exact h ⟨hh.1.symm, hh.2.symm⟩
      have hk : isK a b p = false := by unfold isK; rw [Bool.eq_false_iff]; intro hh; simp at hh; exact h hh
      rw [hf]
      simp only
      rcases afind_ps a b ps (i + 1) with ⟨h1, h2⟩ | ⟨j, q, h1, h2, h3⟩
      · exact .inl ⟨h1, by rw [List.find?_cons_of_neg (by simp [hk]), h2]⟩
      · exact .inr ⟨j + 1, q, by rw [h1]; congr 2; omega, by simpa using h2, by rw [List.find?_cons_of_neg (by simp [hk]), h3]⟩
/-- A map that says of two glyphs what the list says. -/
def KM (ks vs : List AV) (l : List Kn) : Prop := ∃ ps : List Kn, ks = ps.map (fun p => keyC p.l p.r) ∧ vs = ps.map (fun p => .int .i64 p.b) ∧ ∀ a b, ps.find? (isK a b) = l.find? (isK a b)
theorem KM.nil : KM [] [] [] := ⟨[], rfl, rfl, fun _ _ => rfl⟩
theorem km_look {ks vs : List AV} {l : List Kn} (h : KM ks vs l) {H : Heap} {o : Nat} (hH : H[o]? = some (.mp ks vs)) (a b : Int) :
    lookupOf [1, 1] (.int .i64 0) false (.mp o) (.agg [.int .i64 a, .int .i64 b]) H = some (.int .i64 (byP l a b), H) ∧
    lookupOf [1, 1] (.int .i64 0) true (.mp o) (.agg [.int .i64 a, .int .i64 b]) H = some (.tup [.int .i64 (byP l a b), .bool (l.find? (isK a b)).isSome], H) := by
  obtain ⟨ps, rfl, rfl, hf⟩ := h
  have hself := akey_self a b
  unfold keyC at hself
  unfold byP
  rcases afind_ps a b ps 0 with ⟨h1, h2⟩ | ⟨j, q, h1, h2, h3⟩
  · rw [← hf, h2]
    unfold keyC at h1 hH
    simp only [lookupOf, amap_row hH, Option.bind_some, hself, if_true, h1]
    exact ⟨rfl, rfl⟩
  · rw [← hf, h3]
    unfold keyC at h1 hH
    rw [Nat.zero_add] at h1
    have hv : (ps.map fun p => AV.int .i64 p.b).getD j .undef = .int .i64 q.b := by rw [List.getD, List.getElem?_map, h2]; rfl
    simp only [lookupOf, amap_row hH, Option.bind_some, hself, if_true, h1, hv]
    exact ⟨rfl, rfl⟩
/-- One pair more. -/
theorem km_more {ks vs : List AV} {l : List Kn} (h : KM ks vs l) (k : Kn) (hn : l.find? (isK k.l k.r) = none) :
    KM (ks ++ [.agg [.int .i64 k.l, .int .i64 k.r]]) (vs ++ [.int .i64 k.b]) (l ++ [k]) ∧ ∀ (H X : Heap), mapupOf [1, 1] (.mp H.length) (.agg [.int .i64 k.l, .int .i64 k.r]) (.int .i64 k.b) (H ++ (.mp ks vs :: X)) =
      some (.undef, H ++ (.mp (ks ++ [.agg [.int .i64 k.l, .int .i64 k.r]]) (vs ++ [.int .i64 k.b]) :: X)) := by
  obtain ⟨ps, rfl, rfl, hf⟩ := h
  refine ⟨⟨ps ++ [k], by simp [keyC], by simp, fun a b => by rw [List.find?_append, List.find?_append, hf]⟩, fun H X => ?_⟩
  have hH : (H ++ (AO.mp (ps.map fun p => keyC p.l p.r) (ps.map fun p => .int .i64 p.b) :: X))[H.length]? = some (.mp (ps.map fun p => keyC p.l p.r) (ps.map fun p => .int .i64 p.b)) := by
    rw [List.getElem?_append_right (Nat.le_refl _), Nat.sub_self]; rfl
  have hself := akey_self k.l k.r
  rcases afind_ps k.l k.r ps 0 with ⟨h1, h2⟩ | ⟨j, q, h1, h2, h3⟩
  · unfold keyC at h1 hself
    unfold keyC at hH ⊢
    simp only [mapupOf, amap_row hH, Option.bind_some, hself, if_true, h1]
    rw [List.set_append_right _ _ (Nat.le_refl _), Nat.sub_self]
    rfl
  · rw [hf, hn] at h3; cases h3
theorem km_same {ks vs : List AV} {l : List Kn} (h : KM ks vs l) (k : Kn) (hn : (l.find? (isK k.l k.r)).isSome = true) : KM ks vs (l ++ [k]) := by
  obtain ⟨ps, h1, h2, hf⟩ := h
  refine ⟨ps, h1, h2, fun a b => ?_⟩
  rw [List.find?_append, hf]
  by_cases hk : isK a b k = true
  · have : a = k.l ∧ b = k.r := by unfold isK at hk; simp at hk; exact ⟨hk.1.symm, hk.2.symm⟩
    rw [this.1, this.2]
    obtain ⟨q, hq⟩ := Option.isSome_iff_exists.1 hn
    rw [hq]; rfl
  · rw [List.find?_cons_of_neg hk]; simp
/-- How far a glyph is moved. -/
def mvP (l : List Kn) (p : List Pc) : Nat → Int
  | 0 => 0
  | i + 1 => if (p.getD i ⟨0, 0, 0⟩).y = (p.getD (i + 1) ⟨0, 0, 0⟩).y then mvP l p i + byP l (p.getD i ⟨0, 0, 0⟩).g (p.getD (i + 1) ⟨0, 0, 0⟩).g else 0
def shOne (l : List Kn) (p : List Pc) (i : Nat) (q : Pc) : Pc := { q with x := q.x + mvP l p i }
def shiftP (l : List Kn) (p : List Pc) : List Pc := p.zipIdx.map fun q => shOne l p q.2 q.1
theorem shiftP_len (l : List Kn) (p : List Pc) : (shiftP l p).length = p.length := by simp [shiftP]
theorem shiftP_at (l : List Kn) (p : List Pc) {i : Nat} (h : i < p.length) : (shiftP l p)[i]'(by rw [shiftP_len]; exact h) = shOne l p i p[i] := by simp [shiftP]
theorem byP_le {l : List Kn} {B : Int} (hB : 0 ≤ B) (h : ∀ k ∈ l, -B ≤ k.b ∧ k.b ≤ B) (a b : Int) : -B ≤ byP l a b ∧ byP l a b ≤ B := by
  unfold byP
  cases hf : l.find? (isK a b) with
  | none => simp; omega
  | some k => simpa using h k (List.mem_of_find?_eq_some hf)
theorem mvP_le {l : List Kn} {B : Int} (hB : 0 ≤ B) (h : ∀ k ∈ l, -B ≤ k.b ∧ k.b ≤ B) (p : List Pc) : ∀ i : Nat, -((i : Int) * B) ≤ mvP l p i ∧ mvP l p i ≤ (i : Int) * B
  | 0 => by simp [mvP]
  | i + 1 => by
    have ih := mvP_le hB h p i
    have hb := byP_le hB h (p.getD i ⟨0, 0, 0⟩).g (p.getD (i + 1) ⟨0, 0, 0⟩).g
    have e : ((i + 1 : Nat) : Int) * B = (i : Int) * B + B := by push_cast; rw [Int.add_mul, Int.one_mul]
    have hm : 0 ≤ (i : Int) * B := Int.mul_nonneg (Int.natCast_nonneg _) hB
    rw [mvP, e]
    split <;> omega
theorem mvP_nil (p : List Pc) : ∀ i, mvP [] p i = 0
  | 0 => rfl
  | i + 1 => by rw [mvP, mvP_nil p i]; simp [byP]
theorem shiftP_nil (p : List Pc) : shiftP [] p = p := by
  refine List.ext_getElem (shiftP_len _ _) fun i h1 h2 => ?_
  rw [shiftP_at _ _ h2]
  unfold shOne
  rw [mvP_nil, Int.add_zero]
end Go.Proofs.Ytppkggodpihfiaa

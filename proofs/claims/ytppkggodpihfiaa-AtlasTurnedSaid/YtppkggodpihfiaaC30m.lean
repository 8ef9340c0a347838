/- Chapter 30: what is behind the beginning. -/
import Derived.Test.YtppkggodpihfiaaC30l
set_option linter.unusedVariables false
set_option linter.unusedSimpArgs false
set_option maxRecDepth 100000
set_option maxHeartbeats 4000000
namespace Go.Proofs.Ytppkggodpihfiaa
open Go Go.Den
/-- One entry more. -/
theorem push_ent {M : Nat} {Z : Heap} {v : AV} {p : List UInt8} {i : Nat} (h : OwnZ M Z 107 8 Ent.cs v (entsP p i)) (hi : i ≤ 1000000) :
    ∃ (Z' : Heap) (R : List AV), Z'.length = Z.length ∧ (∀ K : Heap, K.length = M → aapp (K ++ (Z ++ [.cells (entAt p (30 + 20 * i)).cs 107 true, .cells (entAt p (30 + 20 * i)).cs 107 true])) 107 8 v (.sl (M + (Z.length + 1)) 0 1 8 (some 1)) =
        some (.sl (M + (Z.length + 2)) 0 (i + 1) 8 none, K ++ (Z' ++ [.cells (entAt p (30 + 20 * i)).cs 107 true, .cells (entAt p (30 + 20 * i)).cs 107 true, .cells R 107 true]))) ∧
      OwnZ M (Z' ++ [.cells (entAt p (30 + 20 * i)).cs 107 true, .cells (entAt p (30 + 20 * i)).cs 107 true, .cells R 107 true]) 107 8 Ent.cs (.sl (M + (Z.length + 2)) 0 (i + 1) 8 none) (entsP p (i + 1)) := by
  obtain ⟨Z', h1, h2, h3, _⟩ := ownz_push ent_cel h (by rw [entsP_len]; exact hi) [.cells (entAt p (30 + 20 * i)).cs 107 true] (entAt p (30 + 20 * i)) rfl rfl
  refine ⟨Z', ((entsP p i ++ [entAt p (30 + 20 * i)]).flatMap Ent.cs), h1, fun K hK => ?_, ?_⟩
  rotate_left
  · rw [entsP_succ]
    simp only [List.length_append, entsP_len, List.length_cons, List.length_nil, Nat.zero_add, List.cons_append, List.nil_append] at h3
    exact h3
  · have := h2 K hK
    simp only [List.length_append, entsP_len, List.length_cons, List.length_nil, Nat.zero_add, List.cons_append, List.nil_append] at this
    exact this
/-- One pair more. -/
theorem push_pr {M : Nat} {Z : Heap} {v : AV} {p : List UInt8} {b i : Nat} (h : OwnZ M Z 113 2 Pr.cs v (prsP p b i)) (hi : i ≤ 1000000) :
    ∃ (Z' : Heap) (R : List AV), Z'.length = Z.length ∧ (∀ K : Heap, K.length = M → aapp (K ++ (Z ++ [.cells (prAt p (b + 6 * i)).cs 113 true, .cells (prAt p (b + 6 * i)).cs 113 true])) 113 2 v (.sl (M + (Z.length + 1)) 0 1 2 (some 1)) =
        some (.sl (M + (Z.length + 2)) 0 (i + 1) 2 none, K ++ (Z' ++ [.cells (prAt p (b + 6 * i)).cs 113 true, .cells (prAt p (b + 6 * i)).cs 113 true, .cells R 113 true]))) ∧
      OwnZ M (Z' ++ [.cells (prAt p (b + 6 * i)).cs 113 true, .cells (prAt p (b + 6 * i)).cs 113 true, .cells R 113 true]) 113 2 Pr.cs (.sl (M + (Z.length + 2)) 0 (i + 1) 2 none) (prsP p b (i + 1)) ∧
      ∀ {β : Type} {e' : TypeId} {sz' : Nat} {g' : β → List AV} {v' : AV} {l' : List β}, e' ≠ 113 → OwnZ M Z e' sz' g' v' l' → ∀ Y, OwnZ M (Z' ++ Y) e' sz' g' v' l' := by
  obtain ⟨Z', h1, h2, h3, h4⟩ := ownz_push pr_cel h (by rw [prsP_len]; exact hi) [.cells (prAt p (b + 6 * i)).cs 113 true] (prAt p (b + 6 * i)) rfl rfl
  refine ⟨Z', ((prsP p b i ++ [prAt p (b + 6 * i)]).flatMap Pr.cs), h1, fun K hK => ?_, ?_, h4⟩
  rotate_left
  · rw [prsP_succ]
    simp only [List.length_append, prsP_len, List.length_cons, List.length_nil, Nat.zero_add, List.cons_append, List.nil_append] at h3
    exact h3
  · have := h2 K hK
    simp only [List.length_append, prsP_len, List.length_cons, List.length_nil, Nat.zero_add, List.cons_append, List.nil_append] at this
    exact this
theorem strC_cel : Cel 1 StrC := ⟨fun _ => rfl, fun _ => rfl, fun _ => rfl, by decide⟩
/-- One page more. -/
theorem push_pg {M : Nat} {Z : Heap} {v : AV} {p : List UInt8} {b one i : Nat} (h : OwnZ M Z 9 1 StrC v (pgsP p b one i)) (hi : i ≤ 1000000) :
    ∃ (Z' : Heap) (R : List AV), Z'.length = Z.length ∧ (∀ K : Heap, K.length = M → aapp (K ++ (Z ++ [.cells [.str (mkS ((p.drop (b + one * i)).take one))] 9 true])) 9 1 v (.sl (M + Z.length) 0 1 1 (some 1)) =
        some (.sl (M + (Z.length + 1)) 0 (i + 1) 1 none, K ++ (Z' ++ [.cells [.str (mkS ((p.drop (b + one * i)).take one))] 9 true, .cells R 9 true]))) ∧
      OwnZ M (Z' ++ [.cells [.str (mkS ((p.drop (b + one * i)).take one))] 9 true, .cells R 9 true]) 9 1 StrC (.sl (M + (Z.length + 1)) 0 (i + 1) 1 none) (pgsP p b one (i + 1)) ∧
      ∀ {β : Type} {e' : TypeId} {sz' : Nat} {g' : β → List AV} {v' : AV} {l' : List β}, e' ≠ 9 → OwnZ M Z e' sz' g' v' l' → ∀ Y, OwnZ M (Z' ++ Y) e' sz' g' v' l' := by
  obtain ⟨Z', h1, h2, h3, h4⟩ := ownz_push strC_cel h (by rw [pgsP_len]; exact hi) [] ((p.drop (b + one * i)).take one) rfl rfl
  refine ⟨Z', ((pgsP p b one i ++ [(p.drop (b + one * i)).take one]).flatMap StrC), h1, fun K hK => ?_, ?_, h4⟩
  rotate_left
  · rw [pgsP_succ]
    simp only [List.length_append, pgsP_len, List.length_cons, List.length_nil, Nat.zero_add, List.cons_append, List.nil_append] at h3
    exact h3
  · have := h2 K hK
    simp only [List.length_append, pgsP_len, List.length_cons, List.length_nil, Nat.zero_add, List.cons_append, List.nil_append] at this
    exact this
theorem keep_no' {n : Nat} : ∀ (H H1 : Heap) (i : Nat) (a b : AO), H[i]? = some a → H1[i]? = some b → a.same b = false → b.under n = false → keepOld n H H1 = false
  | [], _, i, a, b, h, _, _, _ => by simp at h
  | x :: H, [], i, a, b, _, h, _, _ => by simp at h
  | x :: H, y :: H1, 0, a, b, h, h1, h2, h3 => by
    simp only [List.getElem?_cons_zero, Option.some.injEq] at h h1
    subst h h1
    simp [keepOld, h2, h3]
  | x :: H, y :: H1, i + 1, a, b, h, h1, h2, h3 => by
    simp only [List.getElem?_cons_succ] at h h1
    simp [keepOld, keep_no' H H1 i a b h h1 h2 h3]
/-- Behind the call: the box leads to new rows, or nothing was appended. -/
theorem tidy_grw {e : TypeId} {K : Nat → AV → AV → AV → Heap} {o N M : Nat} {p : List UInt8} {a : Atl} (h : Grw e K o N M p a) {q q' : Nat} {Z : Heap} {vg vp vs : AV} {gl : List Ent} {pr : List Pr} {pgs : List (List UInt8)}
    (hg : OwnZ M Z 107 8 Ent.cs vg gl) (hr : OwnZ M Z 113 2 Pr.cs vp pr) (hs : OwnZ M Z 9 1 StrC vs pgs) :
    ∃ Z2, tidy (K q .nils .nils .nils) (.tup []) (K q' vg vp vs ++ Z) = (.tup [], K q' vg vp vs ++ Z2) ∧ OwnZ M Z2 107 8 Ent.cs vg gl ∧ OwnZ M Z2 113 2 Pr.cs vp pr ∧ OwnZ M Z2 9 1 StrC vs pgs := by
  unfold tidy
  split
  · rename_i hk
    have hN : N < (K q .nils .nils .nils).length := by rw [h.len]; exact h.lt
    have hb := h.box q .nils .nils .nils
    have hb' : (K q' vg vp vs ++ Z)[N]? = some (.cells (a.cs vg vp vs) 53 true) := getElem?_keep (h.box q' vg vp vs)
    have hsm : (AO.cells (a.cs .nils .nils .nils) 53 true).same (.cells (a.cs vg vp vs) 53 true) = true ∨ (AO.cells (a.cs vg vp vs) 53 true).under M = true := by
      by_cases h1 : (AO.cells (a.cs .nils .nils .nils) 53 true).same (.cells (a.cs vg vp vs) 53 true) = true
      · exact .inl h1
      · by_cases h2 : (AO.cells (a.cs vg vp vs) 53 true).under M = true
        · exact .inr h2
        · have := keep_no' _ _ N _ _ hb hb' (by simpa using h1) (n := (K q .nils .nils .nils).length) (by rw [h.len]; simpa using h2)
          rw [this] at hk; cases hk
    have hall : (vg = .nils ∧ vp = .nils ∧ vs = .nils) := by
      have gen : ∀ {β : Type} {e' : TypeId} {sz' : Nat} {g' : β → List AV} {v' : AV} {l' : List β}, OwnZ M Z e' sz' g' v' l' → v'.leads (fun r => decide (r < M)) = true → v' = .nils := by
        intro β e' sz' g' v' l' h1 h2
        rcases h1 with h1 | ⟨k, rfl, _⟩
        · exact h1.1
        · simp only [AV.leads, decide_eq_true_eq] at h2; omega
      rcases hsm with h1 | h1
      · have := AO.same_eq h1
        injection this with this
        simp only [Atl.cs, List.cons.injEq, and_true, true_and] at this
        exact ⟨this.1.symm, this.2.1.symm, this.2.2.symm⟩
      · simp only [AO.under, unders, Atl.cs, leadss, Bool.and_eq_true] at h1
        obtain ⟨_, _, _, _, _, _, _, _, b1, b2, b3, _⟩ := h1
        exact ⟨gen hg b1, gen hr b2, gen hs b3⟩
    obtain ⟨rfl, rfl, rfl⟩ := hall
    have nl : ∀ {β : Type} {e' : TypeId} {sz' : Nat} {g' : β → List AV} {l' : List β}, OwnZ M Z e' sz' g' .nils l' → l' = [] := by
      intro β e' sz' g' l' h1
      rcases h1 with h1 | ⟨k, h1, _⟩
      · exact h1.2
      · cases h1
    have hg' := nl hg
    have hr' := nl hr
    have hs' := nl hs
    subst hg' hr' hs'
    refine ⟨[], ?_, .nils, .nils, .nils⟩
    have : (AV.tup []).carry (K q .nils .nils .nils).length (K q' .nils .nils .nils ++ Z) ([], []) = some (.tup [], ([], [])) := by simp [AV.carry, carries]
    rw [this]
    simp only [List.append_nil]
    rw [h.len, List.take_append_of_le_length (by rw [h.len]; exact Nat.le_refl _), List.take_of_length_le (by rw [h.len]; exact Nat.le_refl _)]
  · exact ⟨Z, rfl, hg, hr, hs⟩
end Go.Proofs.Ytppkggodpihfiaa

/- Chapter 29: a map from pages to pieces. -/
import Derived.Test.YtkcbjeenoafbkaaC29d
import Derived.Test.YtkcbjeenoafbkaaLeftX
set_option linter.unusedVariables false
set_option linter.unusedSimpArgs false
set_option maxRecDepth 100000
set_option maxHeartbeats 4000000
namespace Go.Proofs.Ytkcbjeenoafbkaa
open Go Go.Den
abbrev TmE := Int × Nat × List Rect
def rowR (l : List Rect) : AO := AO.cells (l.flatMap Rect.cs) 112 true
def tmK (ms : List TmE) : List AV := ms.map fun m => .int .i64 m.1
def tmV (base : Nat) (ms : List TmE) : List AV := ms.map fun m => .sl (base + m.2.1) 0 m.2.2.length 4 none
def TM (X : Heap) (ms : List TmE) : Prop := (ms.map fun m => m.2.1).Nodup ∧ ∀ m ∈ ms, m.2.2 ≠ [] ∧ X[m.2.1]? = some (rowR m.2.2)
def lookT (g : Int) : List TmE → List Rect
  | [] => []
  | m :: ms => if m.1 = g then m.2.2 else lookT g ms
def ptT (base : Nat) (g : Int) : List TmE → AV
  | [] => .nils
  | m :: ms => if m.1 = g then .sl (base + m.2.1) 0 m.2.2.length 4 none else ptT base g ms
def idxT (g : Int) : List TmE → Option Nat
  | [] => none
  | m :: ms => if m.1 = g then some m.2.1 else idxT g ms
def updT (g : Int) (new : Nat) (r : Rect) : List TmE → List TmE
  | [] => [(g, new, [r])]
  | m :: ms => if m.1 = g then (g, new, m.2.2 ++ [r]) :: ms else m :: updT g new r ms
theorem akey_i (a b : Int) : akey [] (.int .i64 a) (.int .i64 b) = some (a == b) := by simp [akey]
/-- Where a page is in the map. -/
theorem afind_tm (base : Nat) (g : Int) (new : Nat) (r : Rect) : ∀ (ms : List TmE) (i : Nat),
    (afind [] (.int .i64 g) (tmK ms) i = some none ∧ ptT base g ms = .nils ∧ lookT g ms = [] ∧ idxT g ms = none ∧ tmK (updT g new r ms) = tmK ms ++ [.int .i64 g] ∧ tmV base (updT g new r ms) = tmV base ms ++ [.sl (base + new) 0 ((lookT g ms).length + 1) 4 none]) ∨
    ∃ j, afind [] (.int .i64 g) (tmK ms) i = some (some (i + j)) ∧ (tmV base ms).getD j .undef = ptT base g ms ∧ tmK (updT g new r ms) = tmK ms ∧ tmV base (updT g new r ms) = (tmV base ms).set j (.sl (base + new) 0 ((lookT g ms).length + 1) 4 none) ∧
      ∃ m ∈ ms, m.1 = g ∧ lookT g ms = m.2.2 ∧ idxT g ms = some m.2.1 ∧ ptT base g ms = .sl (base + m.2.1) 0 m.2.2.length 4 none
  | [], i => .inl ⟨rfl, rfl, rfl, rfl, rfl, rfl⟩
  | m :: ms, i => by
    by_cases h : m.1 = g
    · refine .inr ⟨0, ?_, ?_, ?_, ?_, m, by simp, h, ?_, ?_, ?_⟩
      · simp [tmK, afind, akey_i, h]
      · simp [tmV, ptT, h]
      · simp [tmK, updT, h]
      · simp [tmV, updT, lookT, h]
      · simp [lookT, h]
      · simp [idxT, h]
      · simp [ptT, h]
    · have hb : (g == m.1) = false := by simp; exact fun e => h e.symm
      have ha : afind [] (.int .i64 g) (tmK (m :: ms)) i = afind [] (.int .i64 g) (tmK ms) (i + 1) := by
        simp only [tmK, List.map_cons, afind, akey_i, hb]
      have h1 : ptT base g (m :: ms) = ptT base g ms := if_neg h
      have h2 : lookT g (m :: ms) = lookT g ms := if_neg h
      have h3 : idxT g (m :: ms) = idxT g ms := if_neg h
      have h4 : updT g new r (m :: ms) = m :: updT g new r ms := if_neg h
      have k1 : ∀ l : List TmE, tmK (m :: l) = .int .i64 m.1 :: tmK l := fun l => rfl
      have k2 : ∀ l : List TmE, tmV base (m :: l) = .sl (base + m.2.1) 0 m.2.2.length 4 none :: tmV base l := fun l => rfl
      rw [ha, h1, h2, h3, h4, k1, k2, k1, k2]
      rcases afind_tm base g new r ms (i + 1) with ⟨e1, e2, e3, e4, e5, e6⟩ | ⟨j, e1, e2, e3, e4, q, e5, e6⟩
      · exact .inl ⟨e1, e2, e3, e4, by rw [e5]; rfl, by rw [e6]; rfl⟩
      · refine .inr ⟨j + 1, by rw [e1]; congr 2; omega, ?_, by rw [e3], by rw [e4]; rfl, q, by simp [e5], e6⟩
        simpa [List.getD] using e2
theorem lookT_upd (g : Int) (new : Nat) (r : Rect) (g' : Int) : ∀ ms : List TmE, lookT g' (updT g new r ms) = if g' = g then lookT g ms ++ [r] else lookT g' ms
  | [] => by
    by_cases h : g' = g
    · subst h; simp [updT, lookT]
    · simp [updT, lookT, h, Ne.symm h]
  | m :: ms => by
    have ih := lookT_upd g new r g' ms
    by_cases h : m.1 = g
    · by_cases h' : g' = g
      · subst h'; simp [updT, lookT, h]
      · have : ¬ g = g' := fun e => h' e.symm
        simp [updT, lookT, h, h', this]
    · by_cases h' : g' = g
      · subst h'; simp [updT, lookT, h, ih]
      · by_cases h'' : m.1 = g' <;> simp [updT, lookT, h, h', h'', ih]
theorem idxT_mem {g : Int} {q : Nat} : ∀ {ms : List TmE}, idxT g ms = some q → ∃ m ∈ ms, m.2.1 = q
  | [], h => by cases h
  | m :: ms, h => by
    by_cases hm : m.1 = g
    · rw [idxT, if_pos hm] at h; injection h with h; exact ⟨m, by simp, h⟩
    · rw [idxT, if_neg hm] at h
      obtain ⟨k, h1, h2⟩ := idxT_mem h
      exact ⟨k, by simp [h1], h2⟩
theorem updT_ok (g : Int) (new : Nat) (r : Rect) : ∀ {ms : List TmE}, (ms.map fun m => m.2.1).Nodup → (∀ m ∈ ms, m.2.1 < new) →
    ((updT g new r ms).map fun m => m.2.1).Nodup ∧ ∀ m ∈ updT g new r ms, m = (g, new, lookT g ms ++ [r]) ∨ (m ∈ ms ∧ ∀ q, idxT g ms = some q → m.2.1 ≠ q)
  | [], _, _ => ⟨by simp [updT], fun m hm => .inl (by simpa [updT, lookT] using hm)⟩
  | m :: ms, hn, hl => by
    rw [List.map_cons, List.nodup_cons] at hn
    by_cases h : m.1 = g
    · have e : updT g new r (m :: ms) = (g, new, m.2.2 ++ [r]) :: ms := if_pos h
      have e2 : lookT g (m :: ms) = m.2.2 := if_pos h
      have e3 : idxT g (m :: ms) = some m.2.1 := if_pos h
      rw [e, e2, e3, List.map_cons, List.nodup_cons]
      refine ⟨⟨fun hm => ?_, hn.2⟩, fun k hk => ?_⟩
      · obtain ⟨k, h1, h2⟩ := List.mem_map.1 hm
        have := hl k (by simp [h1])
        simp only at h2
        omega
      · rcases List.mem_cons.1 hk with hk | hk
        · exact .inl hk
        · refine .inr ⟨by simp [hk], fun q hq => ?_⟩
          injection hq with hq
          subst hq
          exact fun e => hn.1 (e ▸ List.mem_map.2 ⟨k, hk, rfl⟩)
    · have e : updT g new r (m :: ms) = m :: updT g new r ms := if_neg h
      have e2 : lookT g (m :: ms) = lookT g ms := if_neg h
      have e3 : idxT g (m :: ms) = idxT g ms := if_neg h
      obtain ⟨i1, i2⟩ := updT_ok g new r hn.2 (fun k hk => hl k (by simp [hk]))
      rw [e, e2, e3, List.map_cons, List.nodup_cons]
      refine ⟨⟨fun hm => ?_, i1⟩, fun k hk => ?_⟩
      · obtain ⟨k, h1, h2⟩ := List.mem_map.1 hm
        rcases i2 k h1 with rfl | ⟨h3, _⟩
        · have := hl m (by simp)
          simp only at h2
          omega
        · exact hn.1 (h2 ▸ List.mem_map.2 ⟨k, h3, rfl⟩)
      · rcases List.mem_cons.1 hk with rfl | hk
        · refine .inr ⟨by simp, fun q hq he => ?_⟩
          obtain ⟨k', h1, h2⟩ := idxT_mem hq
          exact hn.1 (by rw [he, ← h2]; exact List.mem_map.2 ⟨k', h1, rfl⟩)
        · rcases i2 k hk with h1 | ⟨h1, h2⟩
          · exact .inl h1
          · exact .inr ⟨by simp [h1], h2⟩
/-- What the map says of a page. -/
theorem tm_look {K : Heap} {o base : Nat} {ms : List TmE} (hK : K[o]? = some (.mp (tmK ms) (tmV base ms))) (g : Int) : lookupOf [] .nils false (.mp o) (.int .i64 g) K = some (ptT base g ms, K) := by
  have hself : akey [] (.int .i64 g) (.int .i64 g) = some true := by rw [akey_i]; simp
  rcases afind_tm base g 0 ⟨0, 0, 0, 0⟩ ms 0 with ⟨e1, e2, _⟩ | ⟨j, e1, e2, _⟩
  · simp only [lookupOf, amap_row hK, Option.bind_some, hself, if_true, e1, e2]
    rfl
  · rw [Nat.zero_add] at e1
    simp only [lookupOf, amap_row hK, Option.bind_some, hself, if_true, e1, e2]
    rfl
theorem tm_own {P X : Heap} {ms : List TmE} (h : TM X ms) (g : Int) : Own (P ++ X) 112 4 Rect.cs (ptT P.length g ms) (lookT g ms) := by
  rcases afind_tm P.length g 0 ⟨0, 0, 0, 0⟩ ms 0 with ⟨_, e2, e3, _⟩ | ⟨j, _, _, _, _, m, hm, _, e3, _, e4⟩
  · exact .inl ⟨e2, e3⟩
  · refine .inr ⟨P.length + m.2.1, by rw [e4, e3], ?_⟩
    rw [List.getElem?_append_right (by omega), Nat.add_sub_cancel_left, e3]
    exact (h.2 m hm).2
/-- One piece more of a page. -/
theorem tm_push {P X Z : Heap} {ms : List TmE} (h : TM X ms) (g : Int) (r : Rect) (hl : (lookT g ms).length ≤ 1000000) {p : Nat} (hp : p = P.length + (X.length + Z.length)) :
    ∃ (X' : Heap) (ms' : List TmE), X'.length = X.length ∧ (∀ P' : Heap, P'.length = P.length → aapp (P' ++ (X ++ (Z ++ [.cells r.cs 112 true]))) 112 4 (ptT P.length g ms) (.sl p 0 1 4 (some 1)) =
        some (.sl (p + 1) 0 ((lookT g ms).length + 1) 4 none, P' ++ (X' ++ (Z ++ [.cells r.cs 112 true, rowR (lookT g ms ++ [r])])))) ∧
      (∀ (K : Heap) (o : Nat), K[o]? = some (.mp (tmK ms) (tmV P.length ms)) → mapupOf [] (.mp o) (.int .i64 g) (.sl (p + 1) 0 ((lookT g ms).length + 1) 4 none) K = some (.undef, K.set o (.mp (tmK ms') (tmV P.length ms')))) ∧
      TM (X' ++ (Z ++ [.cells r.cs 112 true, rowR (lookT g ms ++ [r])])) ms' ∧ ∀ g', lookT g' ms' = if g' = g then lookT g ms ++ [r] else lookT g' ms := by
  have hself : akey [] (.int .i64 g) (.int .i64 g) = some true := by rw [akey_i]; simp
  have hlt : ∀ m ∈ ms, m.2.1 < X.length := fun m hm => (List.getElem?_eq_some_iff.1 (h.2 m hm).2).1
  obtain ⟨u1, u2⟩ := updT_ok g (X.length + Z.length + 1) r h.1 (fun m hm => by have := hlt m hm; omega)
  have hq : P.length + (X.length + Z.length + 1) = p + 1 := by omega
  have hnew : ∀ P' : Heap, P'.length = P.length → newOf (P' ++ (X ++ (Z ++ [.cells r.cs 112 true]))) 4 (.sl p 0 1 4 (some 1)) = some ([r].flatMap Rect.cs) := fun P' hP => by
    have := @one_new _ Rect.cs 4 rect_cel 112 (P' ++ (X ++ Z)) [] p r (by simp [hP, hp])
    simpa only [List.append_assoc] using this
  have happ : ∀ (P' v X'), P'.length = P.length → Own (P' ++ X) 112 4 Rect.cs v (lookT g ms) → kill v (P' ++ X) = P' ++ X' → aapp (P' ++ (X ++ (Z ++ [.cells r.cs 112 true]))) 112 4 v (.sl p 0 1 4 (some 1)) =
        some (.sl (p + 1) 0 ((lookT g ms).length + 1) 4 none, P' ++ (X' ++ (Z ++ [.cells r.cs 112 true, rowR (lookT g ms ++ [r])]))) := by
    intro P' v X' hP ho hk
    have := own_app (H := P' ++ X) (B := Z ++ [.cells r.cs 112 true]) (m := [r]) (x := .sl p 0 1 4 (some 1)) rect_cel ho (by simp) rfl (by simpa only [List.append_assoc] using hnew P' hP) (by simp; omega)
    rw [hk] at this
    have h2 : (P' ++ X).length + (Z ++ [AO.cells r.cs 112 true]).length = p + 1 := by simp [hp, hP]; omega
    rw [h2] at this
    simpa only [rowR, List.append_assoc, List.cons_append, List.nil_append, List.length_cons, List.length_nil, Nat.zero_add] using this
  have hlast : ∀ X' : Heap, X'.length = X.length → (X' ++ (Z ++ [.cells r.cs 112 true, rowR (lookT g ms ++ [r])]))[X.length + Z.length + 1]? = some (rowR (lookT g ms ++ [r])) := fun X' hX => by
    rw [List.getElem?_append_right (by omega), List.getElem?_append_right (by omega), hX, show X.length + Z.length + 1 - X.length - Z.length = 1 by omega]; rfl
  rcases afind_tm P.length g (X.length + Z.length + 1) r ms 0 with ⟨e1, e2, e3, e4, e5, e6⟩ | ⟨j, e1, e2, e3, e4, m, hm, hmg, e5, e6, e7⟩
  · refine ⟨X, updT g (X.length + Z.length + 1) r ms, rfl, fun P' hP => ?_, fun K o hK => ?_, ⟨u1, fun k hk => ?_⟩, fun g' => lookT_upd _ _ _ _ _⟩
    · rw [e2]
      exact happ P' .nils X hP (.inl ⟨rfl, e3⟩) rfl
    · simp only [mapupOf, amap_row hK, Option.bind_some, hself, if_true, e1, e5, e6, hq]
    · rcases u2 k hk with rfl | ⟨h1, _⟩
      · exact ⟨by simp, hlast X rfl⟩
      · exact ⟨(h.2 k h1).1, getElem?_keep (h.2 k h1).2⟩
  · refine ⟨X.set m.2.1 .dead, updT g (X.length + Z.length + 1) r ms, by simp, fun P' hP => ?_, fun K o hK => ?_, ⟨u1, fun k hk => ?_⟩, fun g' => lookT_upd _ _ _ _ _⟩
    · rw [e7]
      refine happ P' _ _ hP (.inr ⟨P.length + m.2.1, by rw [e5], ?_⟩) ?_
      · rw [← hP, List.getElem?_append_right (by omega), Nat.add_sub_cancel_left, e5]; exact (h.2 m hm).2
      · simp only [kill]
        rw [← hP, List.set_append_right _ _ (by omega), Nat.add_sub_cancel_left]
    · rw [Nat.zero_add] at e1
      simp only [mapupOf, amap_row hK, Option.bind_some, hself, if_true, e1, e3, e4, hq]
    · rcases u2 k hk with rfl | ⟨h1, h2⟩
      · exact ⟨by simp, hlast _ (by simp)⟩
      · refine ⟨(h.2 k h1).1, getElem?_keep ?_⟩
        rw [List.getElem?_set_ne (fun e => h2 _ e6 e.symm)]
        exact (h.2 k h1).2
end Go.Proofs.Ytkcbjeenoafbkaa

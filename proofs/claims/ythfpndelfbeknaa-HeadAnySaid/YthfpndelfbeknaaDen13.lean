/- == of what isn't a number or a string. -/
import Derived.Test.YthfpndelfbeknaaDen12
import Derived.Laws.StructEq
set_option linter.unusedVariables false
set_option linter.unusedSimpArgs false
namespace Go.Den
open Go.RowKit (Below)
section
variable {P : Program} {W : World} {ρ : Plan} {H : Heap} {w : World} {t : List AV} {a : Act}

theorem aeqs_append : ∀ {ta tb : List Nat} {l m : List AV} {b : Bool}, aeqs (ta ++ tb) l m = some b → ∃ b1 b2, aeqs ta (l.take ta.length) (m.take ta.length) = some b1 ∧ aeqs tb (l.drop ta.length) (m.drop ta.length) = some b2 ∧ b = (b1 && b2)
  | [], tb, l, m, b, h => ⟨true, b, by simp [aeqs], by simpa using h, by simp⟩
  | g :: ta, tb, [], m, b, h => by simp [aeqs] at h
  | g :: ta, tb, x :: l, [], b, h => by simp [aeqs] at h
  | g :: ta, tb, x :: l, y :: m, b, h => by
    simp only [List.cons_append, aeqs] at h
    split at h <;> (try (cases h; done))
    · simp only [Option.map_eq_some_iff] at h
      obtain ⟨b', h1, rfl⟩ := h
      obtain ⟨b1, b2, h2, h3, rfl⟩ := aeqs_append h1
      exact ⟨_, b2, by simp only [List.length_cons, List.take_succ_cons, aeqs, h2, Option.map_some]; rfl, by simpa using h3, by rw [Bool.and_assoc]⟩
    · split at h <;> simp only [Option.map_eq_some_iff, reduceCtorEq] at h
      rename_i hk
      obtain ⟨b', h1, rfl⟩ := h
      obtain ⟨b1, b2, h2, h3, rfl⟩ := aeqs_append h1
      exact ⟨_, b2, by simp only [List.length_cons, List.take_succ_cons, aeqs, h2, Option.map_some, if_pos hk]; rfl, by simpa using h3, by rw [Bool.and_assoc]⟩
    · simp only [Option.map_eq_some_iff] at h
      obtain ⟨b', h1, rfl⟩ := h
      obtain ⟨b1, b2, h2, h3, rfl⟩ := aeqs_append h1
      exact ⟨_, b2, by simp only [List.length_cons, List.take_succ_cons, aeqs, h2, Option.map_some]; rfl, by simpa using h3, by rw [Bool.and_assoc]⟩
/-- parts of two values, compared. -/
def PartEq (P : Program) (W : World) (ρ : Plan) (n : Nat) (w : World) (D : Nat) (ty : TypeId) (tags : List Nat) : Prop :=
  ∀ (l m : List AV) (xs ys : List Value), VRs W ρ n l xs → VRs W ρ n m ys → ∀ (off : Nat) (b : Bool), off + tags.length ≤ l.length → off + tags.length ≤ m.length → aeqs tags ((l.drop off).take tags.length) ((m.drop off).take tags.length) = some b →
    ∃ x y, (part ty xs.toArray off).run P w = .ok x w ∧ (part ty ys.toArray off).run P w = .ok y w ∧ (Op.equalIn D ty x y).run P w = .ok b w
theorem fields_eq {n D : Nat} {g : TypeId → Option (List Nat)} (ih : ∀ ty tags, g ty = some tags → PartEq P W ρ n w D ty tags) {l m : List AV} {xs ys : List Value} (hx : VRs W ρ n l xs) (hy : VRs W ρ n m ys) :
    ∀ (fs : List Field) (off : Nat) (tags : List Nat) (b : Bool), tagsL g off fs = some tags → off + tags.length ≤ l.length → off + tags.length ≤ m.length → aeqs tags ((l.drop off).take tags.length) ((m.drop off).take tags.length) = some b →
      (Op.eqFields D xs.toArray ys.toArray fs).run P w = .ok b w
  | [], off, tags, b, ht, _, _, hb => by
    simp only [tagsL, Option.some.injEq] at ht
    subst ht
    simp only [List.length_nil, List.take_zero, aeqs, Option.some.injEq] at hb
    subst hb
    simp [Op.eqFields]
  | f :: fs, off, tags, b, ht, h1, h2, hb => by
    simp only [tagsL] at ht
    split at ht <;> simp only [Option.bind_eq_some_iff, Option.map_eq_some_iff, reduceCtorEq] at ht
    rename_i hf
    obtain ⟨ta, hta, tb, htb, rfl⟩ := ht
    have hf1 : f.name ≠ "_" := fun h => hf (.inl h)
    have hf2 : f.offset = off := by
      refine Decidable.byContradiction fun h => hf (.inr h)
    simp only [List.length_append] at h1 h2 hb
    obtain ⟨b1, b2, e1, e2, rfl⟩ := aeqs_append hb
    rw [List.take_take, List.take_take, Nat.min_eq_left (by omega)] at e1
    rw [List.drop_take, List.drop_take, List.drop_drop, List.drop_drop, show ta.length + tb.length - ta.length = tb.length by omega] at e2
    obtain ⟨x, y, p1, p2, p3⟩ := ih _ _ hta l m xs ys hx hy off b1 (by omega) (by omega) e1
    have hrest := fields_eq ih hx hy fs (off + ta.length) tb b2 htb (by omega) (by omega) e2
    simp only [Op.eqFields, ne_eq, hf1, not_false_eq_true, if_true, Sem.run_bind, hf2, p1, p2, p3, Result.andThen_ok]
    cases b1
    · simp
    · simpa using hrest
theorem one_cell {l : List AV} {xs : List Value} {n off : Nat} (hx : VRs W ρ n l xs) (h : off + 1 ≤ l.length) : ∃ v x, (l.drop off).take 1 = [v] ∧ xs[off]? = some x ∧ VR W ρ n v x := by
  have hj : off < l.length := by omega
  obtain ⟨x, h1, h2⟩ := VRs_get hx (List.getElem?_eq_getElem hj)
  exact ⟨l[off], x, by rw [List.drop_eq_getElem_cons hj]; rfl, h1, h2⟩
theorem info_of {ty : TypeId} {d : TypeDesc} (h : P.underlying ty = some d) : ∃ i, P.info? ty = some i := by
  cases hi : P.info? ty with
  | some i => exact ⟨i, rfl⟩
  | none => simp [Program.underlying, hi] at h
theorem part_eq {n : Nat} : ∀ (d : Nat) (ty : TypeId) (tags : List Nat), eqTags P d ty = some tags → ∀ D, d ≤ D → PartEq P W ρ n w D ty tags
  | 0, ty, tags, h, _, _ => by simp [eqTags] at h
  | d + 1, ty, tags, h, 0, hD => by omega
  | d + 1, ty, tags, h, D + 1, hD => by
    simp only [eqTags, Option.bind_eq_some_iff] at h
    obtain ⟨r, h1, h2⟩ := h
    split at h2 <;> simp only [Option.some.injEq, reduceCtorEq] at h2
    rename_i hlen
    subst h2
    intro l m xs ys hx hy off b hl hm hb
    split at h1 <;> (try (cases h1; done))
    · rename_i hu
      injection h1 with h1
      subst h1
      obtain ⟨v, x, q1, q2, q3⟩ := one_cell hx hl
      obtain ⟨u, y, q4, q5, q6⟩ := one_cell hy hm
      simp only [List.length_cons, List.length_nil, Nat.zero_add] at hb
      rw [q1, q4] at hb
      refine ⟨x, y, by simp [part, isAgg, run_underlying' hu, q2], by simp [part, isAgg, run_underlying' hu, q5], ?_⟩
      simp only [aeqs] at hb
      split at hb <;> (try (cases hb; done))
      all_goals rename_i hg; first | (cases hg; done) | skip
      all_goals
        simp only [VR] at q3 q6
        subst q3 q6
        simp [aeqs] at hb
        subst hb
        simp [Op.equalIn, run_underlying' hu]
    · rename_i k hu
      injection h1 with h1
      subst h1
      obtain ⟨v, x, q1, q2, q3⟩ := one_cell hx hl
      obtain ⟨u, y, q4, q5, q6⟩ := one_cell hy hm
      simp only [List.length_cons, List.length_nil, Nat.zero_add] at hb
      rw [q1, q4] at hb
      refine ⟨x, y, by simp [part, isAgg, run_underlying' hu, q2], by simp [part, isAgg, run_underlying' hu, q5], ?_⟩
      simp only [aeqs] at hb
      split at hb <;> (try (cases hb; done))
      all_goals rename_i hg; first | (cases hg; done) | skip
      all_goals
        simp only [VR] at q3 q6
        subst q3 q6
        split at hb <;> simp at hb
        rename_i hk
        subst hk
        subst hb
        simp [Op.equalIn, run_underlying' hu]
    · rename_i hu
      injection h1 with h1
      subst h1
      obtain ⟨v, x, q1, q2, q3⟩ := one_cell hx hl
      obtain ⟨u, y, q4, q5, q6⟩ := one_cell hy hm
      simp only [List.length_cons, List.length_nil, Nat.zero_add] at hb
      rw [q1, q4] at hb
      refine ⟨x, y, by simp [part, isAgg, run_underlying' hu, q2], by simp [part, isAgg, run_underlying' hu, q5], ?_⟩
      simp only [aeqs] at hb
      split at hb <;> (try (cases hb; done))
      all_goals rename_i hg; first | (cases hg; done) | skip
      all_goals
        simp only [VR] at q3 q6
        subst q3 q6
        simp at hb
        subst hb
        simp [Op.equalIn, run_underlying' hu]
    · rename_i fs hu
      split at h1 <;> (try (cases h1; done))
      rename_i hst
      obtain ⟨i, hi⟩ := info_of hu
      have hsz : i.size = r.length := by rw [hlen]; simp [Program.cellsOf, hi]
      have hp : ∀ zs : List Value, (part ty zs.toArray off).run P w = .ok (.agg ((zs.drop off).take r.length).toArray) w := fun zs => by
        simp only [part, isAgg, Sem.run_bind, run_underlying' hu, Result.andThen_ok, Sem.run_pure, if_true, sizeOf, run_typeInfo hi, hsz]
        congr 2
        apply Array.ext'
        simp [List.take_drop, Nat.add_comm]
      refine ⟨_, _, hp xs, hp ys, ?_⟩
      have hfs : P.fieldsOf ty = fs := by simp [Program.fieldsOf, hu]
      rw [run_equalIn_struct w D ty _ _ (by rw [hfs]; exact hu) (by simpa using hst), hfs]
      refine fields_eq (fun ty tags h => part_eq d ty tags h D (by omega)) (VRs_take (VRs_drop hx off) r.length) (VRs_take (VRs_drop hy off) r.length) fs.toList 0 r b h1 (by simp; omega) (by simp; omega) ?_
      simpa [List.take_take] using hb
theorem eql_ways {ty : TypeId} {x y : Value} {b : Bool} (hxy : (∃ p q, x = .pointer p ∧ y = .pointer q) ∨ (∃ p q, x = .bool p ∧ y = .bool q) ∨ (∃ p n c q m d, x = .slice p n c ∧ y = .slice q m d) ∨ (x = .nilFunc ∧ y = .nilFunc) ∨ (x = .nilFunc ∧ ∃ f g c, y = .func f g c) ∨ (y = .nilFunc ∧ ∃ f g c, x = .func f g c))
    (h : ∀ d, (Op.equalIn (d + 1) ty x y).run P w = .ok b w) : (binOp .eql ty x y).run P w = .ok (.bool b) w ∧ (binOp .neq ty x y).run P w = .ok (.bool !b) w ∧ ∀ (op : BinOp) (u z : Operand), (eqGuard op ty u z x y).run P w = .ok () w := by
  have h' : (Op.equal ty x y).run P w = .ok b w := h 9999
  refine ⟨?_, ?_, ?_⟩
  · rcases hxy with ⟨p, q, rfl, rfl⟩ | ⟨p, q, rfl, rfl⟩ | ⟨p, n, c, q, m, d, rfl, rfl⟩ | ⟨rfl, rfl⟩ | ⟨rfl, f, g, c, rfl⟩ | ⟨rfl, f, g, c, rfl⟩ <;> simp only [binOp, Sem.run_bind, h', Result.andThen_ok, Sem.run_pure]
  · rcases hxy with ⟨p, q, rfl, rfl⟩ | ⟨p, q, rfl, rfl⟩ | ⟨p, n, c, q, m, d, rfl, rfl⟩ | ⟨rfl, rfl⟩ | ⟨rfl, f, g, c, rfl⟩ | ⟨rfl, f, g, c, rfl⟩ <;> simp only [binOp, Sem.run_bind, h', Result.andThen_ok, Sem.run_pure]
  · intro op u z
    rw [eqGuard_plain]
    · rfl
    · rcases hxy with ⟨p, q, rfl, rfl⟩ | ⟨p, q, rfl, rfl⟩ | ⟨p, n, c, q, m, d, rfl, rfl⟩ | ⟨rfl, rfl⟩ | ⟨rfl, f, g, c, rfl⟩ | ⟨rfl, f, g, c, rfl⟩ <;> simp
theorem op_binop {o : Oper} {s : SO} {op : BinOp} {ty ty' : TypeId} {x y : Operand} (ho : o.op = .binOp op ty x y ty') (hs : slimOp P o.op = some s) (hr : Rel W ρ H w) (ha : AR W ρ H.length t a) {v : AV} {H' : Heap} (he : aop (evx t) H s = some (v, H')) : Fine P W ρ H w o a v H' := by
  rw [ho] at hs
  simp only [slimOp, Option.bind_eq_some_iff] at hs
  obtain ⟨sx, hx, sy, hy, hs⟩ := hs
  split at hs <;> (try (cases hs; done))
  · injection hs with hs; subst hs; exact op_bin ho hx hy hr ha he
  · injection hs with hs; subst hs; exact op_bin ho hx hy hr ha he
  rename_i d hn1 hn2 hu
  split at hs <;> (try (cases hs; done))
  rename_i hop
  have h1 := evx_ok ha hx
  have h2 := evx_ok ha hy
  have ways : ∀ {b : Bool}, ((binOp .eql ty (a.eval x) (a.eval y)).run P w = .ok (.bool b) w ∧ (binOp .neq ty (a.eval x) (a.eval y)).run P w = .ok (.bool !b) w ∧ ∀ (op : BinOp) (u z : Operand), (eqGuard op ty u z (a.eval x) (a.eval y)).run P w = .ok () w) → ((binOp .eql ty (a.eval x) (a.eval y)).run P w = .ok (.bool b) w ∧ (binOp .neq ty (a.eval x) (a.eval y)).run P w = .ok (.bool !b) w ∧ ∀ op', (eqGuard op' ty x y (a.eval x) (a.eval y)).run P w = .ok () w) := fun h => ⟨h.1, h.2.1, fun op' => h.2.2 op' x y⟩
  have fin : ∀ {k : Nat} {tags : List Nat}, s = .eqs k tags (decide (op = .neq)) sx sy → (∀ b, aeq tags k (evx t sx) (evx t sy) = some b → (binOp .eql ty (a.eval x) (a.eval y)).run P w = .ok (.bool b) w ∧ (binOp .neq ty (a.eval x) (a.eval y)).run P w = .ok (.bool !b) w ∧ ∀ op', (eqGuard op' ty x y (a.eval x) (a.eval y)).run P w = .ok () w) → Fine P W ρ H w o a v H' := by
    intro k tags hs hk
    subst hs
    simp only [aop, Option.map_eq_some_iff] at he
    obtain ⟨b, hb, he⟩ := he
    obtain ⟨rfl, rfl⟩ := Prod.mk.inj he
    obtain ⟨h3, h4, h5⟩ := hk b hb
    rcases hop with rfl | rfl
    · exact fine_pure hr (x := .bool b) (by simp [execOp, ho, h3, h5]) (by simp [VR])
    · exact fine_pure hr (x := .bool !b) (by simp [execOp, ho, h4, h5]) (by simp [VR])
  split at hs
  · injection hs with hs
    rename_i hd
    refine fin hs.symm fun b hb => ?_
    generalize hk : (0 : Nat) = k at hb
    unfold aeq at hb
    split at hb <;> (try (cases hb; done)) <;> (try (cases hk; done)) <;> rename_i e1 e2 <;> rw [e1] at h1 <;> rw [e2] at h2 <;> simp only [VR] at h1 h2 <;> injection hb with hb <;> subst hb <;> exact ways (by rw [h1, h2]; exact eql_ways (by simp) (fun d => by simp [Op.equalIn, run_underlying' hu]))
  · injection hs with hs
    refine fin hs.symm fun b hb => ?_
    generalize hk : (1 : Nat) = k at hb
    unfold aeq at hb
    split at hb <;> (try (cases hb; done)) <;> (try (cases hk; done)) <;> rename_i e1 e2 <;> rw [e1] at h1 <;> rw [e2] at h2 <;> simp only [VR] at h1 h2 <;> injection hb with hb <;> subst hb
    · exact ways (by rw [h1, h2]; exact eql_ways (by simp) (fun d => by simp [Op.equalIn, run_underlying' hu]))
    all_goals
      first
        | (obtain ⟨_, h2⟩ := h2; exact ways (by rw [h1, h2]; exact eql_ways (by simp) (fun d => by simp [Op.equalIn, run_underlying' hu])))
        | (obtain ⟨_, h2, _⟩ := h2; exact ways (by rw [h1, h2]; exact eql_ways (by simp) (fun d => by simp [Op.equalIn, run_underlying' hu])))
        | (obtain ⟨_, h1⟩ := h1; exact ways (by rw [h1, h2]; exact eql_ways (by simp) (fun d => by simp [Op.equalIn, run_underlying' hu])))
        | (obtain ⟨_, h1, _⟩ := h1; exact ways (by rw [h1, h2]; exact eql_ways (by simp) (fun d => by simp [Op.equalIn, run_underlying' hu])))
  · injection hs with hs
    refine fin hs.symm fun b hb => ?_
    generalize hk : (2 : Nat) = k at hb
    unfold aeq at hb
    split at hb <;> (try (cases hb; done)) <;> (try (cases hk; done)) <;> rename_i e1 e2 <;> rw [e1] at h1 <;> rw [e2] at h2 <;> simp only [VR] at h1 h2 <;> injection hb with hb <;> subst hb
    · exact ways (by rw [h1, h2]; exact eql_ways (by simp) (fun d => by simp [Op.equalIn, run_underlying' hu]))
    all_goals
      first
        | (obtain ⟨_, _, _, h2, _⟩ := h2; exact ways (by rw [h1, h2]; exact eql_ways (by simp) (fun d => by simp [Op.equalIn, run_underlying' hu])))
        | (obtain ⟨_, _, h2, _⟩ := h2; exact ways (by rw [h1, h2]; exact eql_ways (by simp) (fun d => by simp [Op.equalIn, run_underlying' hu])))
        | (obtain ⟨_, _, _, h1, _⟩ := h1; exact ways (by rw [h1, h2]; exact eql_ways (by simp) (fun d => by simp [Op.equalIn, run_underlying' hu])))
        | (obtain ⟨_, _, h1, _⟩ := h1; exact ways (by rw [h1, h2]; exact eql_ways (by simp) (fun d => by simp [Op.equalIn, run_underlying' hu])))
  · injection hs with hs
    refine fin hs.symm fun b hb => ?_
    generalize hk : (3 : Nat) = k at hb
    unfold aeq at hb
    split at hb <;> (try (cases hb; done)) <;> (try (cases hk; done)) <;> rename_i e1 e2 <;> rw [e1] at h1 <;> rw [e2] at h2 <;> simp only [VR] at h1 h2 <;> injection hb with hb <;> subst hb
    · exact ways (by rw [h1, h2]; exact eql_ways (by simp) (fun d => by simp [Op.equalIn, run_underlying' hu]))
    all_goals
      first
        | (obtain ⟨_, h2, _⟩ := h2; exact ways (by rw [h1, h2]; exact eql_ways (by simp) (fun d => by simp [Op.equalIn, run_underlying' hu])))
        | (obtain ⟨_, h1, _⟩ := h1; exact ways (by rw [h1, h2]; exact eql_ways (by simp) (fun d => by simp [Op.equalIn, run_underlying' hu])))
  · simp only [Option.bind_eq_some_iff] at hs
    obtain ⟨tags, htags, hs⟩ := hs
    split at hs <;> (try (cases hs; done))
    rename_i hg
    injection hs with hs
    refine fin hs.symm fun b hb => ?_
    generalize hk : (4 : Nat) = k at hb
    unfold aeq at hb
    split at hb <;> (try (cases hb; done)) <;> (try (cases hk; done))
    rename_i l m e1 e2
    rw [e1] at h1
    rw [e2] at h2
    simp only [VR] at h1 h2
    obtain ⟨xs, q1, q2⟩ := h1
    obtain ⟨ys, q3, q4⟩ := h2
    rw [q1, q3]
    have hlen : ∀ {tags : List Nat} {l m : List AV} {b : Bool}, aeqs tags l m = some b → l.length = tags.length ∧ m.length = tags.length := by
      intro tags
      induction tags with
      | nil => intro l m b h; cases l <;> cases m <;> simp [aeqs] at h; exact ⟨rfl, rfl⟩
      | cons g tags ih =>
        intro l m b h
        cases l <;> cases m <;> simp only [aeqs, reduceCtorEq] at h
        split at h <;> (try (cases h; done))
        · simp only [Option.map_eq_some_iff] at h; obtain ⟨b', h1, _⟩ := h; obtain ⟨h2, h3⟩ := ih h1; exact ⟨by simp [h2], by simp [h3]⟩
        · split at h <;> simp only [Option.map_eq_some_iff, reduceCtorEq] at h; obtain ⟨b', h1, _⟩ := h; obtain ⟨h2, h3⟩ := ih h1; exact ⟨by simp [h2], by simp [h3]⟩
        · simp only [Option.map_eq_some_iff] at h; obtain ⟨b', h1, _⟩ := h; obtain ⟨h2, h3⟩ := ih h1; exact ⟨by simp [h2], by simp [h3]⟩
    obtain ⟨hl, hm⟩ := hlen hb
    obtain ⟨X, Y, p1, p2, p3⟩ := part_eq (P := P) (w := w) 20 ty tags htags 10000 (by omega) l m xs ys q2 q4 0 b (by omega) (by omega) (by rw [List.drop_zero, List.drop_zero, List.take_of_length_le (by omega), List.take_of_length_le (by omega)]; exact hb)
    obtain ⟨i, hi⟩ := info_of hu
    have hxs := VRs_length q2
    have hys := VRs_length q4
    have hcells : i.size = tags.length := by
      simp only [eqTags, Option.bind_eq_some_iff] at htags
      obtain ⟨r, _, h2⟩ := htags
      split at h2 <;> simp only [Option.some.injEq, reduceCtorEq] at h2
      rename_i h3
      rw [← h2, h3]
      simp [Program.cellsOf, hi]
    have hagg : (isAgg ty).run P w = .ok true w := by
      have := hg.1
      unfold isAggT at this
      rw [hu] at this
      unfold isAgg
      simp only [Sem.run_bind, run_underlying' hu, Result.andThen_ok]
      split at this <;> (try (cases this; done)) <;> rename_i h9 <;> injection h9 with h9 <;> subst h9 <;> rfl
    have hpart : ∀ zs : List Value, zs.length = tags.length → (part ty zs.toArray 0).run P w = .ok (.agg zs.toArray) w := fun zs hz => by
      simp only [part, Sem.run_bind, hagg, Result.andThen_ok, Sem.run_pure, if_true, sizeOf, run_typeInfo hi, hcells]
      congr 2
      apply Array.ext'
      simp [← hz]
    rw [hpart xs (by omega)] at p1
    rw [hpart ys (by omega)] at p2
    injection p1 with p1
    injection p2 with p2
    subst p1 p2
    exact ⟨by rw [run_eql_struct, p3]; rfl, by rw [run_neq_struct, p3]; rfl, fun op' => run_eqGuard_agg w op' ty x y _ _ hg.2⟩
end
end Go.Den

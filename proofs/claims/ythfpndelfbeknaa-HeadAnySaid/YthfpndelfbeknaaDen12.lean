/- append, copy, clear. -/
import Derived.Test.YthfpndelfbeknaaDen11
import Derived.Lib.UnsafeStr
set_option linter.unusedVariables false
set_option linter.unusedSimpArgs false
namespace Go.Den
open Go.RowKit (Below)
section
variable {P : Program} {W : World} {ρ : Plan} {H : Heap} {w : World} {t : List AV} {a : Act}

theorem Stp.kill {ρ' : Plan} {H' : Heap} {w' : World} (h : Stp W ρ H w ρ' H' w') (o : Nat) : Stp W ρ H w ρ' (H'.set o .dead) w' := by
  refine ⟨h.same, by rw [List.length_set]; exact h.len, h.size, h.frame, fun i ⟨y, hy, hyd⟩ => h.own i ?_, h.rel.kill o⟩
  rw [List.getElem?_set] at hy
  split at hy
  · split at hy <;> simp at hy; exact absurd hy.symm hyd
  · exact ⟨y, hy, hyd⟩
/-- A row that grows in its block: the old one is forgotten. -/
theorem stp_regrow {w' : World} (h : Rel W ρ H w) {o : Nat} {L : List AV} {e : TypeId} {r : Bool} (hx : H[o]? = some (.cells L e r)) (hset : SetTo (ρ o).b w w') {s : Spot} (hs : s.b = (ρ o).b) {n : AO}
    (hn : OR W (ρ.ext H.length s) (H.length + 1) n s w') : Stp W ρ H w (ρ.ext H.length s) (H.set o .dead ++ [n]) w' := by
  have hlo : live H o := ⟨_, hx, by simp⟩
  have hbo := h.lo o hlo
  have hlo' := live_lt hlo
  have hlen : (H.set o AO.dead).length = H.length := List.length_set
  have hlive : ∀ i, live (H.set o .dead ++ [n]) i → i = H.length ∨ (live H i ∧ i ≠ o) := fun i ⟨y, hy, hyd⟩ => by
    rcases Nat.lt_or_ge i H.length with h1 | h1
    · rw [List.getElem?_append_left (by omega), List.getElem?_set] at hy
      split at hy
      · rename_i he
        subst he
        injection hy with hy
        exact absurd hy.symm hyd
      · rename_i hne; exact .inr ⟨⟨y, hy, hyd⟩, fun he => hne he.symm⟩
    · have := (List.getElem?_eq_some_iff.1 hy).1; simp at this; exact .inl (by omega)
  refine ⟨Plan.ext_lt, by simp, by have := hset.size; omega, fun b hb hnb => hset.other b (fun he => hnb o hlo he.symm), fun i hi => ?_, ⟨⟨hset.os.trans h.below.os, hset.tape.trans h.below.tape, hset.output.trans h.below.output, by have := h.below.size; have := hset.size; omega, fun k hk => ?_⟩, fun i hi => ?_, fun i y hy => ?_, fun i j hi hj hij => ?_⟩⟩
  · rcases hlive i hi with rfl | ⟨h1, _⟩
    · exact .inr ⟨o, hlo, by rw [Plan.ext_at]; exact hs.symm⟩
    · exact .inr ⟨i, h1, by rw [Plan.ext_lt i (live_lt h1)]⟩
  · rw [hset.other k (by omega)]; exact h.below.block k hk
  · rcases hlive i hi with rfl | ⟨h1, _⟩
    · rw [Plan.ext_at, hs]; exact hbo
    · rw [Plan.ext_lt i (live_lt h1)]; exact h.lo i h1
  · simp only [List.length_append, hlen, List.length_cons, List.length_nil]
    rcases Nat.lt_or_ge i H.length with h1 | h1
    · rw [List.getElem?_append_left (by omega), List.getElem?_set] at hy
      split at hy
      · rename_i he
        subst he
        injection hy with hy
        subst hy
        trivial
      · rename_i hne
        rw [Plan.ext_lt i h1]
        exact OR_same (h.obj i y hy) Plan.ext_lt (by omega) (fun hyd => hset.other _ fun heq => hne (h.inj o i hlo ⟨y, hy, hyd⟩ heq.symm))
    · have h2 := (List.getElem?_eq_some_iff.1 hy).1
      simp at h2
      obtain rfl : i = H.length := by omega
      rw [List.getElem?_append_right (by omega)] at hy
      simp [hlen] at hy
      subst hy
      rw [Plan.ext_at]
      exact hn
  · rcases hlive i hi with rfl | ⟨h1, h1'⟩ <;> rcases hlive j hj with rfl | ⟨h2, h2'⟩
    · rfl
    · rw [Plan.ext_at, Plan.ext_lt j (live_lt h2), hs] at hij; exact absurd (h.inj o j hlo h2 hij).symm h2'
    · rw [Plan.ext_at, Plan.ext_lt i (live_lt h1), hs] at hij; exact absurd (h.inj i o h1 hlo hij) h1'
    · rw [Plan.ext_lt i (live_lt h1), Plan.ext_lt j (live_lt h2)] at hij; exact h.inj i j h1 h2 hij
theorem cell_heap {w w1 : World} (h : w1.heap = w.heap) (p : Addr) : w1.cell? p = w.cell? p := by simp [World.cell?, h]
/-- What is appended, or copied. -/
theorem source_ok (hr : Rel W ρ H w) {x : AV} {xv : Value} (hx : VR W ρ H.length x xv) {n sz : Nat} (hn : alen x = some n) {l : List AV}
    (hl : newOf H sz x = some l) (hln : l.length = n * sz) :
    (∀ w1 : World, w1.heap = w.heap → (Builtin.lenOf xv).run P w1 = .ok n w1) ∧ ∃ xs : List Value, VRs W ρ H.length l xs ∧ xs.length = l.length ∧ (∀ x ∈ xs, x.oneCell' = true) ∧
      ∀ w1 : World, w1.heap = w.heap → ∀ k, k ≤ n → (Builtin.firstCells sz k xv).run P w1 = .ok (xs.take (k * sz)).toArray w1 := by
  by_cases hstr : ∃ s, x = .str s
  · obtain ⟨s, rfl⟩ := hstr
    simp only [newOf] at hl
    split at hl <;> simp only [Option.some.injEq, reduceCtorEq] at hl
    rename_i hsz
    subst hl
    subst hsz
    simp only [VR] at hx
    subst hx
    simp only [alen, Option.some.injEq] at hn
    subst hn
    refine ⟨fun w1 _ => by simp [Builtin.lenOf], s.data.toList.map fun b => .int .u8 b.toNat, ?_, by simp [strCells], by simp [Value.oneCell'], fun w1 _ k hk => ?_⟩
    · unfold strCells
      generalize s.data.toList = q
      induction q with
      | nil => simp [VRs]
      | cons b q ih => simp only [List.map_cons, VRs, VR]; exact ⟨_, _, rfl, rfl, ih⟩
    · simp only [Builtin.firstCells, Sem.run_pure]
      congr 1
      apply Array.ext'
      simp only [Array.toList_map, Nat.mul_one]
      rw [← List.map_take]
      congr 1
      rw [ByteArray.data_extract]
      simp
  · have hns : ∀ s, x ≠ .str s := fun s h => hstr ⟨s, h⟩
    have hl' : acells H x = some l := by
      cases x
      case str s => exact absurd rfl (hns s)
      all_goals exact hl
    rcases acells_ok hr hx hl' with ⟨h1, rfl⟩ | ⟨p, len, c, xs, h1, h2, h3, h4, h5, h6, h7⟩
    · subst h1
      cases x <;> simp only [VR] at hx <;> simp only [alen, Option.some.injEq, reduceCtorEq] at hn
      case nils =>
        subst hn
        exact ⟨fun w1 _ => by simp [Builtin.lenOf], [], by simp [VRs], rfl, by simp, fun w1 _ k hk => by simp [Builtin.firstCells]⟩
      case vs =>
        obtain ⟨_, _, h, _⟩ := hx
        cases h
      case sl =>
        obtain ⟨_, _, _, h, _⟩ := hx
        cases h
      case str => exact absurd rfl (hns _)
    · subst h1
      rw [h2] at hn
      injection hn with hn
      subst hn
      refine ⟨fun w1 _ => by simp [Builtin.lenOf], xs, h4, h5, h7, fun w1 hw1 k hk => ?_⟩
      have hk' : k * sz ≤ len * sz := Nat.mul_le_mul_right _ hk
      have hload := run_loadCells_xs (P := P) (w := w1) (a := p) (xs := xs.take (k * sz)) (k := k * sz) (by simp; omega) (fun j x hj => by
        rw [List.getElem?_take] at hj
        split at hj
        · rw [cell_heap hw1]; exact h6 j x hj
        · simp at hj)
      simpa [Builtin.firstCells] using hload
theorem growBy_le (N : Nat) : ∀ (r c : Nat), Builtin.growBy N r c ≤ max c (2 * N + 192)
  | 0, c => by simp only [Builtin.growBy]; omega
  | r + 1, c => by
    simp only [Builtin.growBy]
    split
    · omega
    · have := growBy_le N r (c + (c + 768) / 4)
      omega
theorem nextcap_le {N c : Nat} (h : c < N) : Builtin.nextslicecap N c ≤ 2 * N + 192 := by
  unfold Builtin.nextslicecap
  split
  · omega
  · split
    · omega
    · have := growBy_le N 4 c
      omega
theorem not_int : ∀ {ud : TypeDesc}, (∀ k, ud ≠ .int k) → (match ud with | .int _ => true | _ => false) = false := by
  intro ud hni
  cases ud <;> first | rfl | exact absurd rfl (hni _)
/-- 'append' where there is no room: a new row. -/
theorem append_new {ty u e : TypeId} {ud : TypeDesc} {i : TypeInfo} {z : AV} (hu : P.underlying ty = some (.slice e)) (hud : P.underlying u = some ud) (hni : ∀ k, ud ≠ .int k) (hi : P.info? e = some i) (hz : zeroT P e = some z) (hb : i.bytes ≤ 1024) (hzl : z.cells.length = i.size)
    {sv xv : Value} {base : Option Addr} {sLen sCap n : Nat} (hsv : sv = .slice base sLen sCap) {os ns : List Value} (hlen : ∀ w1 : World, w1.heap = w.heap → (Builtin.lenOf xv).run P w1 = .ok n w1)
    (hold : ∀ w1 : World, w1.heap = w.heap → (Builtin.firstCells i.size sLen sv).run P w1 = .ok os.toArray w1) (hnew : ∀ w1 : World, w1.heap = w.heap → (Builtin.firstCells i.size n xv).run P w1 = .ok ns.toArray w1) (hcap : sCap < sLen + n) (hroom : sLen + n ≤ 4294967296) (ty' : TypeId) :
    ∃ (newCap : Nat) (rest : Array Value) (w' : World), sLen + n ≤ newCap ∧ rest.size = (newCap - (sLen + n)) * i.size ∧ OneMore w w' ∧ w'.heap[w.heap.size]? = some (.cells (os.toArray ++ ns.toArray ++ rest) e (0, 0)) ∧
      (Builtin.append_ #[ty, u] ty' #[sv, xv]).run P w = .ok (.slice (some ⟨w.heap.size, 0, none⟩) (sLen + n) newCap) w' := by
  obtain ⟨zv, hzr, hzc⟩ := zero_cells (P := P) (W := default) (ρ := fun _ => ⟨0, 0, 0⟩) (H := []) (w := { w with drawn := w.drawn + 1 }) hz
  have hzs := VRs_length hzc
  simp only [Array.length_toList] at hzs
  refine ⟨grownCap w (sLen + n) sCap e, Builtin.zeroCells zv.cells (grownCap w (sLen + n) sCap e - (sLen + n)), { w with drawn := w.drawn + 1, heap := w.heap.push (.cells (os.toArray ++ ns.toArray ++ Builtin.zeroCells zv.cells (grownCap w (sLen + n) sCap e - (sLen + n))) e) }, grownCap_ge w _ _ e, ?_, ⟨by simp, rfl, rfl, rfl, fun b hb => by simp [Array.getElem?_push, show b ≠ w.heap.size by omega]⟩, by simp, ?_⟩
  · simp [Builtin.zeroCells]; rw [← hzs, hzl]
  · subst hsv
    have h1 : ¬ (sLen + n ≤ sCap) := by omega
    have h2 : ¬ (((sLen + n : Nat) : Int) > IntKind.i64.max ∧ (False ∨ i.bytes = 0)) := by
      rintro ⟨h, _⟩
      have e : IntKind.i64.max = 9223372036854775807 := by decide
      rw [e] at h; omega
    have h3 : ¬ (Builtin.nextslicecap (sLen + n) sCap * i.bytes > 2 ^ 48) := by
      have h4 := nextcap_le (N := sLen + n) (c := sCap) (by omega)
      have h5 : Builtin.nextslicecap (sLen + n) sCap * i.bytes ≤ (2 * 4294967296 + 192) * 1024 := Nat.mul_le_mul (by omega) hb
      omega
    have hints := not_int hni
    unfold Builtin.append_
    simp only [List.getElem?_toArray, List.getElem?_cons_zero, List.getElem?_cons_succ, Sem.run_bind, run_underlying' hu, Result.andThen_ok, sizeOf, run_typeInfo hi, Sem.run_pure, run_underlying' hud]
    have e1 := hlen w rfl
    simp only [Bool.false_eq_true, if_false, Sem.run_bind, Result.andThen_ok, e1, if_neg h1, Bool.not_false, if_true]
    have hf : (Question.appendCap (sLen + n) sCap e).forced = false := rfl
    simp only [run_typeInfo hi, Result.andThen_ok, if_neg h2, if_neg h3, Sem.run_bind, run_choose, hf, Bool.false_eq_true, if_false, run_askRoom]
    have e2 := hold { w with drawn := w.drawn + 1 } rfl
    have e3 := hnew { w with drawn := w.drawn + 1 } rfl
    have e4 : (Question.appendCap (sLen + n) sCap e).cut (w.tape w.drawn (Question.appendCap (sLen + n) sCap e)) = grownCap w (sLen + n) sCap e := rfl
    simp only [run_typeInfo hi, Result.andThen_ok, run_askRoom, e2, e3, hzr, newRow, Sem.run_bind, run_newObj, Sem.run_pure, e4]
/-- 'append' where there is room. -/
theorem append_old {ty u e : TypeId} {ud : TypeDesc} {i : TypeInfo} (hu : P.underlying ty = some (.slice e)) (hud : P.underlying u = some ud) (hni : ∀ k, ud ≠ .int k) (hi : P.info? e = some i)
    {sv xv : Value} {base : Addr} {sLen sCap n : Nat} (hsv : sv = .slice (some base) sLen sCap) {ns : List Value} (hlen : (Builtin.lenOf xv).run P w = .ok n w) (hnew : (Builtin.firstCells i.size n xv).run P w = .ok ns.toArray w)
    (hcap : sLen + n ≤ sCap) {w' : World} (hst : (storeCells (base.add (sLen * i.size)) ns).run P w = .ok () w') (ty' : TypeId) :
    (Builtin.append_ #[ty, u] ty' #[sv, xv]).run P w = .ok (.slice (some base) (sLen + n) sCap) w' := by
  subst hsv
  have hints := not_int hni
  unfold Builtin.append_
  simp only [List.getElem?_toArray, List.getElem?_cons_zero, List.getElem?_cons_succ, Sem.run_bind, run_underlying' hu, Result.andThen_ok, sizeOf, run_typeInfo hi, Sem.run_pure, run_underlying' hud]
  simp only [Bool.false_eq_true, if_false, Sem.run_bind, Result.andThen_ok, hlen, if_pos hcap, Bool.not_false, if_true, hnew, hst, Sem.run_pure]
theorem append_none {ty u e : TypeId} {ud : TypeDesc} {i : TypeInfo} (hu : P.underlying ty = some (.slice e)) (hud : P.underlying u = some ud) (hni : ∀ k, ud ≠ .int k) (hi : P.info? e = some i)
    {xv : Value} {cs : Array Value} (hlen : (Builtin.lenOf xv).run P w = .ok 0 w) (hnew : (Builtin.firstCells i.size 0 xv).run P w = .ok cs w) (ty' : TypeId) :
    (Builtin.append_ #[ty, u] ty' #[.slice none 0 0, xv]).run P w = .ok (.slice none 0 0) w := by
  have hints := not_int hni
  unfold Builtin.append_
  simp only [List.getElem?_toArray, List.getElem?_cons_zero, List.getElem?_cons_succ, Sem.run_bind, run_underlying' hu, Result.andThen_ok, sizeOf, run_typeInfo hi, Sem.run_pure, run_underlying' hud]
  simp [hlen, hnew]
theorem nothing_new {x : AV} {xv : Value} {n sz : Nat} (hx : VR W ρ n x xv) (h0 : alen x = some 0) : (Builtin.lenOf xv).run P w = .ok 0 w ∧ (Builtin.firstCells sz 0 xv).run P w = .ok (([] : List Value).toArray) w := by
  rcases alen_ok hx h0 with ⟨p, c, rfl⟩ | ⟨s, rfl, hs, _⟩
  · refine ⟨by simp [Builtin.lenOf], ?_⟩
    cases p with
    | none => simp [Builtin.firstCells]
    | some p =>
      have := run_loadCells_xs (P := P) (w := w) (a := p) (xs := []) (k := 0) rfl (fun j x hj => by simp at hj)
      simpa [Builtin.firstCells] using this
  · refine ⟨by simp [Builtin.lenOf, ← hs], ?_⟩
    simp only [Builtin.firstCells, Sem.run_pure]
    congr 1
    apply Array.ext'
    rw [ByteArray.data_extract]
    simp
/-- 'append' of so many zero elements to nil. -/
theorem append_made {ty u e : TypeId} {k : IntKind} {i : TypeInfo} {z : AV} (hu : P.underlying ty = some (.slice e)) (hud : P.underlying u = some (.int k)) (hi : P.info? e = some i) (hz : zeroT P e = some z) (hb : i.bytes ≤ 1024) (hi0 : i.size ≠ 0) (hzl : z.cells.length = i.size)
    {k' : IntKind} {n : Int} (h0 : 0 < n) (hroom : n ≤ 4294967296) (ty' : TypeId) :
    ∃ (newCap : Nat) (rest : Array Value) (w' : World) (zv : Value), n.toNat ≤ newCap ∧ rest.size = (newCap - n.toNat) * i.size ∧ OneMore w w' ∧ zv.cells.size = i.size ∧
      (∀ (W : World) (ρ : Plan) (m : Nat), VRs W ρ m z.cells zv.cells.toList) ∧ w'.heap[w.heap.size]? = some (.cells (#[] ++ Builtin.zeroCells zv.cells n.toNat ++ rest) e (0, 0)) ∧
      (Builtin.append_ #[ty, u] ty' #[.slice none 0 0, .int k' n]).run P w = .ok (.slice (some ⟨w.heap.size, 0, none⟩) n.toNat newCap) w' := by
  obtain ⟨zv, hzr, _⟩ := zero_cells (P := P) (W := default) (ρ := fun _ => ⟨0, 0, 0⟩) (H := []) (w := { w with drawn := w.drawn + 1 }) hz
  have hzc : ∀ (W : World) (ρ : Plan) (H : Heap), VRs W ρ H.length z.cells zv.cells.toList := fun W ρ H => by
    obtain ⟨zv', hzr', hzc'⟩ := zero_cells (P := P) (W := W) (ρ := ρ) (H := H) (w := { w with drawn := w.drawn + 1 }) hz
    rw [hzr] at hzr'
    injection hzr' with h _
    rw [h]; exact hzc'
  have hzs := VRs_length (hzc default (fun _ => ⟨0, 0, 0⟩) [])
  simp only [Array.length_toList] at hzs
  have hg := grownCap_ge w n.toNat 0 e
  refine ⟨grownCap w n.toNat 0 e, Builtin.zeroCells zv.cells (grownCap w n.toNat 0 e - n.toNat), { w with drawn := w.drawn + 1, heap := w.heap.push (.cells (#[] ++ Builtin.zeroCells zv.cells n.toNat ++ Builtin.zeroCells zv.cells (grownCap w n.toNat 0 e - n.toNat)) e) }, zv, hg, ?_, ⟨by simp, rfl, rfl, rfl, fun b hb => by simp [Array.getElem?_push, show b ≠ w.heap.size by omega]⟩, by omega, fun W ρ m => ?_, by simp, ?_⟩
  · simp [Builtin.zeroCells]; rw [← hzs, hzl]
  · simpa using hzc W ρ (List.replicate m .dead)
  · have hw := wrap64_small (n := n) (by omega) (by omega)
    have h1 : ¬ (0 + n.toNat ≤ 0) := by omega
    have h2 : ¬ (((0 + n.toNat : Nat) : Int) > IntKind.i64.max ∧ (True ∨ i.bytes = 0)) := by
      rintro ⟨h, _⟩
      have e : IntKind.i64.max = 9223372036854775807 := by decide
      rw [e] at h; omega
    have h3 : ¬ (Builtin.nextslicecap (0 + n.toNat) 0 * i.bytes > 2 ^ 48) := by
      have h4 := nextcap_le (N := 0 + n.toNat) (c := 0) (by omega)
      have h5 : Builtin.nextslicecap (0 + n.toNat) 0 * i.bytes ≤ (2 * 4294967296 + 192) * 1024 := Nat.mul_le_mul (by omega) hb
      omega
    have h4 : ¬ (n * (i.bytes : Int) > 2 ^ 48) := by
      have : n * (i.bytes : Int) ≤ 4294967296 * 1024 := Int.mul_le_mul (by omega) (by omega) (by omega) (by omega)
      omega
    have h5 : ¬ (n < 0) := by omega
    have h6 : ¬ (n.toNat * i.size = 0) := by
      have := Nat.mul_pos (show 0 < n.toNat by omega) (show 0 < i.size by omega); omega
    have hf : (Question.appendCap (0 + n.toNat) 0 e).forced = false := rfl
    have e4 : (Question.appendCap (0 + n.toNat) 0 e).cut (w.tape w.drawn (Question.appendCap (0 + n.toNat) 0 e)) = grownCap w n.toNat 0 e := by rw [Nat.zero_add]; rfl
    unfold Builtin.append_
    simp only [List.getElem?_toArray, List.getElem?_cons_zero, List.getElem?_cons_succ, Sem.run_bind, run_underlying' hu, Result.andThen_ok, sizeOf, run_typeInfo hi, Sem.run_pure, run_underlying' hud]
    simp only [if_true, Sem.run_bind, asInt, asIntOf, Sem.run_pure, Result.andThen_ok, hw, if_neg h5, run_typeInfo hi, if_neg h4, if_neg h1]
    simp only [run_typeInfo hi, Result.andThen_ok, if_neg h2, if_neg h3, Sem.run_bind, run_choose, hf, Bool.false_eq_true, if_false, run_askRoom, Bool.not_true]
    simp only [run_typeInfo hi, Result.andThen_ok, run_askRoom, Builtin.firstCells, if_neg h6, hzr, newRow, Sem.run_bind, run_newObj, Sem.run_pure, Nat.zero_add]
    rfl
theorem op_appn {o : Oper} {c : Call} (ho : o.op = .call c) (hb : c.callee = .builtin .append) {ty u e : TypeId} {k : IntKind} {i : TypeInfo} {z : AV} (ht : c.argTypes.toList = [ty, u]) {ss sx : SX} (hx : c.args.toList.mapM slimX = some [ss, sx])
    (hu : P.underlying ty = some (.slice e)) (hud : P.underlying u = some (.int k)) (hi : P.info? e = some i) (hz : zeroT P e = some z) (hbt : i.bytes ≤ 1024) (hi0 : i.size ≠ 0) (hzl : z.cells.length = i.size) (hwe : whole e = false)
    (hr : Rel W ρ H w) (ha : AR W ρ H.length t a) {v : AV} {H' : Heap} (he : aop (evx t) H (.appn e z.cells ss sx) = some (v, H')) : Fine P W ρ H w o a v H' := by
  obtain ⟨sv, xv, h1, h2, h3⟩ := VRs_two (evxs_ok ha hx)
  obtain ⟨cs, hrun⟩ := run_builtin (P := P) (w := w) ho hb h1 ht
  simp only [aop] at he
  generalize evx t ss = s at he h2
  generalize evx t sx = x at he h3
  have hfin : ∀ {v1 : Value} {w1 : World} {ρ' : Plan}, (Builtin.append_ #[ty, u] o.type #[sv, xv]).run P w = .ok v1 w1 → Stp W ρ H w ρ' H' w1 → VR W ρ' H'.length v v1 → Fine P W ρ H w o a v H' := fun hv hs hw =>
    ⟨_, _, _, .inl (by rw [hrun]; simp only [builtin, Sem.run_bind, hv, Result.andThen_ok, Sem.run_pure]), hs, hw⟩
  split at he <;> (try (cases he; done))
  rename_i k' n
  simp only [VR] at h2 h3
  subst h2
  subst h3
  split at he
  · rename_i h0
    subst h0
    simp only [Option.some.injEq, Prod.mk.injEq] at he
    obtain ⟨rfl, rfl⟩ := he
    refine hfin (v1 := .slice none 0 0) ?_ (.refl hr) (by simp only [VR])
    have hw := wrap64_small (n := 0) (by omega) (by omega)
    unfold Builtin.append_
    simp only [List.getElem?_toArray, List.getElem?_cons_zero, List.getElem?_cons_succ, Sem.run_bind, run_underlying' hu, Result.andThen_ok, sizeOf, run_typeInfo hi, Sem.run_pure, run_underlying' hud]
    simp [asInt, asIntOf, hw, run_typeInfo hi]
  · rename_i hn0
    split at he <;> simp only [Option.some.injEq, Prod.mk.injEq, reduceCtorEq] at he
    rename_i hg
    obtain ⟨hg1, hg2⟩ := hg
    simp only [roomy, decide_eq_true_eq] at hg2
    obtain ⟨rfl, rfl⟩ := he
    obtain ⟨newCap, rest, w', zv, j1, j2, j3, j6, j7, j4, j5⟩ := append_made (P := P) (w := w) (k' := k') hu hud hi hz hbt hi0 hzl (n := n) (by omega) (by omega) o.type
    have hrow := again_ok (j7 W ρ H.length) (by omega) n.toNat
    have hall := again_one (zeroT_one hz) n.toNat
    have hlen : ((List.replicate n.toNat z.cells).flatten).length = n.toNat * i.size := by simp [hzl]
    have hzsz : (Builtin.zeroCells zv.cells n.toNat).size = n.toNat * i.size := by simp [Builtin.zeroCells, j6]
    have hsize : (#[] ++ Builtin.zeroCells zv.cells n.toNat ++ rest).size = newCap * i.size := by
      simp only [Array.size_append, Array.size_empty, hzsz, j2]
      have e1 : newCap * i.size = n.toNat * i.size + (newCap - n.toNat) * i.size := by rw [← Nat.add_mul]; congr 1; omega
      omega
    refine hfin j5 (stp_push hr Plan.ext_lt (by rw [Plan.ext_at]) j3 (ρ' := ρ.ext H.length ⟨w.heap.size, 0, newCap * i.size⟩) ?_) ?_
    · rw [Plan.ext_at]
      refine ⟨_, (0, 0), j4, hsize, ?_, fun j v hj => ?_, fun _ q _ => by simp, fun h => by rw [hwe] at h; cases h⟩
      · simp only [Nat.zero_add, hlen]
        exact Nat.mul_le_mul_right _ j1
      · obtain ⟨y, q1, q2, q3⟩ := VRs_all hrow hall j v hj
        refine ⟨y, ?_, VR_mono Plan.ext_lt (by omega) v y q2, q3⟩
        have hlt : j < (Builtin.zeroCells zv.cells n.toNat).size := by
          have := (List.getElem?_eq_some_iff.1 hj).1
          omega
        rw [Nat.zero_add, Array.getElem?_append_left (by simpa using hlt), Array.empty_append]
        rw [Array.getElem?_toList, hzl, ← j6] at q1
        exact q1
    · simp only [VR, Plan.ext_at, List.length_append, List.length_cons, List.length_nil]
      exact ⟨by omega, _, _, rfl, j1, .inr (by simp), by simp [hzl], fun q hq => by cases hq⟩
theorem op_cap {o : Oper} {c : Call} (ho : o.op = .call c) (hb : c.callee = .builtin .cap) {ty e : TypeId} (ht : c.argTypes.toList = [ty]) {sx : SX} (hx : c.args.toList.mapM slimX = some [sx]) (hu : P.underlying ty = some (.slice e))
    (hr : Rel W ρ H w) (ha : AR W ρ H.length t a) {v : AV} {H' : Heap} (he : aop (evx t) H (.cap sx) = some (v, H')) : Fine P W ρ H w o a v H' := by
  obtain ⟨x, h1, h2⟩ := VRs_one (evxs_ok ha hx)
  obtain ⟨cs, hrun⟩ := run_builtin (P := P) (w := w) ho hb h1 ht
  simp only [aop] at he
  generalize evx t sx = s at he h2
  split at he <;> simp only [Option.some.injEq, Prod.mk.injEq, reduceCtorEq] at he
  · obtain ⟨rfl, rfl⟩ := he
    simp only [VR] at h2
    subst h2
    refine fine_pure hr (x := .int .i64 0) ?_ (by simp only [VR])
    rw [hrun]
    simp [builtin, Builtin.cap_, run_underlying' hu, goInt]
  · obtain ⟨rfl, rfl⟩ := he
    simp only [VR] at h2
    obtain ⟨_, ad, cc, rfl, _, _, _, hc⟩ := h2
    rename_i cap
    have := hc _ rfl
    subst this
    refine fine_pure hr (x := .int .i64 cc) ?_ (by simp only [VR])
    rw [hrun]
    simp [builtin, Builtin.cap_, run_underlying' hu, goInt]
theorem op_app {o : Oper} {c : Call} (ho : o.op = .call c) (hb : c.callee = .builtin .append) {ty u e : TypeId} {ud : TypeDesc} {i : TypeInfo} {z : AV} (ht : c.argTypes.toList = [ty, u]) {ss sx : SX} (hx : c.args.toList.mapM slimX = some [ss, sx])
    (hu : P.underlying ty = some (.slice e)) (hud : P.underlying u = some ud) (hni : ∀ k, ud ≠ .int k) (hi : P.info? e = some i) (hz : zeroT P e = some z) (hbt : i.bytes ≤ 1024) (hi0 : i.size ≠ 0) (hzl : z.cells.length = i.size) (hwe : whole e = false)
    (hr : Rel W ρ H w) (ha : AR W ρ H.length t a) {v : AV} {H' : Heap} (he : aop (evx t) H (.app e i.size ss sx) = some (v, H')) : Fine P W ρ H w o a v H' := by
  obtain ⟨sv, xv, h1, h2, h3⟩ := VRs_two (evxs_ok ha hx)
  obtain ⟨cs, hrun⟩ := run_builtin (P := P) (w := w) ho hb h1 ht
  simp only [aop] at he
  generalize evx t ss = s at he h2
  generalize evx t sx = x at he h3
  have hfin : ∀ {v1 : Value} {w1 : World} {ρ' : Plan}, (Builtin.append_ #[ty, u] o.type #[sv, xv]).run P w = .ok v1 w1 → Stp W ρ H w ρ' H' w1 → VR W ρ' H'.length v v1 → Fine P W ρ H w o a v H' := fun hv hs hw =>
    ⟨_, _, _, .inl (by rw [hrun]; simp only [builtin, Sem.run_bind, hv, Result.andThen_ok, Sem.run_pure]), hs, hw⟩
  unfold aapp at he
  split at he <;> (try (cases he; done))
  rename_i n l hn hl
  by_cases hn0 : n = 0
  · subst hn0
    rw [if_pos rfl] at he
    obtain ⟨k1, k2⟩ := nothing_new (P := P) (w := w) (sz := i.size) h3 hn
    have key : v = s ∧ H' = H := by
      split at he <;> (try (cases he; done)) <;> (simp only [Option.some.injEq, Prod.mk.injEq] at he; exact ⟨he.1.symm, he.2.symm⟩)
    obtain ⟨rfl, rfl⟩ := key
    refine hfin ?_ (.refl hr) h2
    cases v <;> simp only [reduceCtorEq] at he <;> simp only [VR] at h2
    case nils =>
      subst h2
      exact append_none hu hud hni hi k1 k2 _
    case sl =>
      obtain ⟨_, ad, cc, rfl, hle, _⟩ := h2
      exact append_old hu hud hni hi rfl k1 k2 hle rfl _
    case vs =>
      obtain ⟨ad, cc, rfl, hle, _⟩ := h2
      exact append_old hu hud hni hi rfl k1 k2 hle rfl _
  · rw [if_neg hn0] at he
    split at he <;> (try (cases he; done))
    rename_i hnew
    obtain ⟨k1, xs, k2, k3, k4, k5⟩ := source_ok (P := P) hr h3 hn hl hnew.1
    have hfirst : ∀ w1 : World, w1.heap = w.heap → (Builtin.firstCells i.size n xv).run P w1 = .ok xs.toArray w1 := fun w1 hw1 => by
      have := k5 w1 hw1 n (Nat.le_refl n)
      rwa [List.take_of_length_le (by omega)] at this
    have hall : ∀ v ∈ l, v.one = true := by have := hnew.2; rwa [List.all_eq_true] at this
    /- a new row -/
    have fresh : ∀ (base : Option Addr) (sLen sCap : Nat) (old : List AV) (os : List Value), sv = .slice base sLen sCap → VRs W ρ H.length old os → old.length = sLen * i.size → (∀ v ∈ old, v.one = true) →
        (∀ w1 : World, w1.heap = w.heap → (Builtin.firstCells i.size sLen sv).run P w1 = .ok os.toArray w1) → sCap < sLen + n → roomy (sLen + n) = true →
        ∃ v1 w1 ρ', (Builtin.append_ #[ty, u] o.type #[sv, xv]).run P w = .ok v1 w1 ∧ Stp W ρ H w ρ' (H ++ [.cells (old ++ l) e true]) w1 ∧ VR W ρ' (H.length + 1) (.sl H.length 0 (sLen + n) i.size none) v1 := by
      intro base sLen sCap old os h4 h5 h6 h6' h7 h8 h9
      simp only [roomy, decide_eq_true_eq] at h9
      obtain ⟨newCap, rest, w', j1, j2, j3, j4, j5⟩ := append_new (P := P) (w := w) hu hud hni hi hz hbt hzl h4 k1 h7 hfirst h8 h9 o.type
      have hos := VRs_length h5
      have hxs := VRs_length k2
      have hrow : VRs W ρ H.length (old ++ l) (os ++ xs) := VRs_append h5 k2
      have hsize : (os.toArray ++ xs.toArray ++ rest).size = newCap * i.size := by
        simp only [Array.size_append, List.size_toArray, j2]
        have e1 : newCap * i.size = (sLen + n) * i.size + (newCap - (sLen + n)) * i.size := by rw [← Nat.add_mul]; congr 1; omega
        rw [Nat.add_mul] at e1
        have := hnew.1
        omega
      refine ⟨_, w', ρ.ext H.length ⟨w.heap.size, 0, newCap * i.size⟩, j5, stp_push hr Plan.ext_lt (by rw [Plan.ext_at]) j3 ?_, ?_⟩
      · rw [Plan.ext_at]
        refine ⟨_, (0, 0), j4, hsize, ?_, fun j v hj => ?_, fun _ q _ => by simp, fun h => by rw [hwe] at h; cases h⟩
        · simp only [List.length_append, Nat.zero_add, h6, hnew.1, ← Nat.add_mul]
          exact Nat.mul_le_mul_right _ j1
        · obtain ⟨y, q1, q2⟩ := VRs_get hrow hj
          refine ⟨y, ?_, VR_mono Plan.ext_lt (by omega) v y q2, ?_⟩
          · have hlt := (List.getElem?_eq_some_iff.1 q1).1
            rw [Nat.zero_add, Array.getElem?_append_left (by simpa using hlt)]
            simpa using q1
          · have := List.mem_of_getElem? hj
            rw [List.mem_append] at this
            rcases this with h | h
            · exact h6' v h
            · exact hall v h
      · simp only [VR, Plan.ext_at]
        exact ⟨by omega, _, _, rfl, j1, .inr (by simp), by simp, fun q hq => by cases hq⟩
    cases s <;> simp only [reduceCtorEq] at he
    case nils =>
      split at he <;> simp only [Option.some.injEq, Prod.mk.injEq, reduceCtorEq] at he
      rename_i hro
      obtain ⟨rfl, rfl⟩ := he
      simp only [VR] at h2
      obtain ⟨v1, w1, ρ', q1, q2, q3⟩ := fresh none 0 0 [] [] h2 (by simp [VRs]) (by simp) (by simp) (fun w1 _ => by subst h2; simp [Builtin.firstCells]) (by omega) (by rwa [Nat.zero_add])
      exact hfin q1 (by simpa using q2) (by simpa using q3)
    case sl so off len sz' cap =>
      split at he <;> (try (cases he; done))
      rename_i L e' rw hH
      split at he <;> (try (cases he; done))
      rename_i hg
      obtain ⟨hg1, hg2, hg3, hg4⟩ := hg
      subst hg1
      obtain rfl : e' = e := hg2
      simp only [VR] at h2
      obtain ⟨hso, ad, cc, hsv, hlc, had, hcz, hcap⟩ := h2
      have hlo : live H so := ⟨_, hH, by simp⟩
      have hOR := hr.obj so _ hH
      obtain ⟨ch, fr, hch, hchz, hLz, hLv, hLf⟩ := hOR
      /- what is there -/
      have hold : aload H (len * i.size) (.ptr so off) = some ((L.drop off).take (len * i.size)) := by simp only [aload, arow, hH, if_pos hg3]
      obtain ⟨a', os, p1, p2, p3, p4, p5, p6, p7⟩ := aload_ok (p := .ptr so off) (x := .pointer (some ⟨(ρ so).b, (ρ so).d + off, none⟩)) hr (by simp only [VR]; exact ⟨hso, trivial⟩) hold
      injection p1 with p1
      injection p1 with p1
      have p5' : ∀ (j : Nat) (x : Value), os[j]? = some x → w.cell? (ad.add j) = some x := by
        intro j x hj
        rcases had with h | h
        · have : len = 0 := by omega
          subst this
          have : os = [] := List.eq_nil_of_length_eq_zero (by omega)
          subst this
          simp at hj
        · rw [h, p1]; exact p5 j x hj
      have hone : ∀ v ∈ (L.drop off).take (len * i.size), v.one = true := by rwa [List.all_eq_true] at p7
      have hfc : ∀ w1 : World, w1.heap = w.heap → (Builtin.firstCells i.size len sv).run P w1 = .ok os.toArray w1 := fun w1 hw1 => by
        rw [hsv]
        simp only [Builtin.firstCells]
        exact run_loadCells_xs p4 (fun j x hj => by rw [cell_heap hw1]; exact p5' j x hj)
      have fresh' := fresh (some ad) len cc _ os hsv p2 p3 hone hfc
      have kill : (∃ k, cap = some k ∧ ¬ (len + n > k)) ∨ cap = none → rw = true → v = .sl H.length 0 (len + n) i.size none → H' = H.set so .dead ++ [.cells ((L.drop off).take (len * i.size) ++ l) e' true] → Fine P W ρ H w o a v H' := by
        intro hc hrw hv hH'
        subst hrw
        subst hv
        subst hH'
        by_cases hroom : cc < len + n
        · obtain ⟨v1, w1, ρ', q1, q2, q3⟩ := fresh' hroom hg4
          refine hfin q1 ?_ (by simpa using q3)
          have q4 := q2.kill so
          rwa [List.set_append_left so .dead (live_lt hlo)] at q4
        · have had' : ad = ⟨(ρ so).b, (ρ so).d + off, none⟩ := by
            rcases had with h | h
            · omega
            · exact h
          have hmul : (len + n) * i.size ≤ cc * i.size := Nat.mul_le_mul_right _ (by omega)
          have hadd : (len + n) * i.size = len * i.size + n * i.size := Nat.add_mul _ _ _
          have hz' : (ρ so).d + (off + len * i.size) + xs.length ≤ (ρ so).z := by
            have := hnew.1
            omega
          obtain ⟨r1, r2, c1, fr1, c2, r3, r4, r5, r6, r7, r8⟩ := write_ok (P := P) (vs := l) (hr.obj so _ hH) (o := off + len * i.size) hz' k4
          rw [hch] at r3
          injection r3 with r3
          injection r3 with r3 _ r3'
          subst r3
          subst r3'
          have hst : (storeCells (ad.add (len * i.size)) xs).run P w = .ok () (w.setCells (ρ so).b ((ρ so).d + (off + len * i.size)) xs) := by
            rw [had', add_mk, Nat.add_assoc]; exact r1
          have q1 := append_old (P := P) (w := w) hu hud hni hi hsv (k1 w rfl) (hfirst w rfl) (by omega) hst o.type
          refine hfin q1 (stp_regrow hr hH r2 (s := ⟨(ρ so).b, (ρ so).d + off, (ρ so).z⟩) rfl ?_) ?_
          · refine ⟨c2, fr, r5, r6, ?_, fun j v hj => ?_, fun _ => r8, fun h => by rw [hwe] at h; cases h⟩
            · simp only [List.length_append, p3, hnew.1]
              omega
            · simp only
              rw [r7]
              rw [List.getElem?_append] at hj
              split at hj
              · rename_i hj1
                rw [p3] at hj1
                rw [if_neg (by omega)]
                rw [List.getElem?_take, if_pos hj1, List.getElem?_drop] at hj
                obtain ⟨y, y1, y2, y3⟩ := hLv _ v hj
                exact ⟨y, by rw [Nat.add_assoc]; exact y1, VR_mono Plan.ext_lt (by omega) v y y2, y3⟩
              · rename_i hj1
                rw [p3] at hj1 hj
                obtain ⟨y, y1, y2⟩ := VRs_get k2 hj
                have y3 := (List.getElem?_eq_some_iff.1 y1).1
                rw [if_pos (by omega)]
                refine ⟨y, ?_, VR_mono Plan.ext_lt (by omega) v y y2, hall v (List.mem_of_getElem? hj)⟩
                rw [show (ρ so).d + off + j - ((ρ so).d + (off + len * i.size)) = j - len * i.size by omega]
                exact y1
          · simp only [VR, List.length_append, List.length_set, List.length_cons, List.length_nil, Plan.ext_at]
            exact ⟨by omega, _, _, rfl, by omega, .inr (by rw [had']; simp), by simp; omega, fun q hq => by cases hq⟩
      cases cap with
      | none =>
        simp only at he
        split at he <;> simp only [Option.some.injEq, Prod.mk.injEq, reduceCtorEq] at he
        rename_i hrw
        exact kill (.inr rfl) hrw he.1.symm he.2.symm
      | some k =>
        simp only at he
        split at he
        · rename_i hk
          simp only [Option.some.injEq, Prod.mk.injEq] at he
          obtain ⟨rfl, rfl⟩ := he
          have hck := hcap k rfl
          obtain ⟨v1, w1, ρ', q1, q2, q3⟩ := fresh' (by omega) hg4
          exact hfin q1 q2 (by simpa using q3)
        · rename_i hk
          split at he <;> simp only [Option.some.injEq, Prod.mk.injEq, reduceCtorEq] at he
          rename_i hrw
          exact kill (.inl ⟨k, rfl, hk⟩) hrw he.1.symm he.2.symm
/-- unsafe.SliceData. -/
theorem op_sdata {o : Oper} {c : Call} (ho : o.op = .call c) (hb : c.callee = .builtin .unsafeSliceData) {ty : TypeId} (ht : c.argTypes.toList = [ty]) {sx : SX} (hx : c.args.toList.mapM slimX = some [sx])
    (hr : Rel W ρ H w) (ha : AR W ρ H.length t a) {v : AV} {H' : Heap} (he : aop (evx t) H (.sdata sx) = some (v, H')) : Fine P W ρ H w o a v H' := by
  obtain ⟨x, h1, h2⟩ := VRs_one (evxs_ok ha hx)
  obtain ⟨cs, hrun⟩ := run_builtin (P := P) (w := w) ho hb h1 ht
  simp only [aop] at he
  generalize evx t sx = s at he h2
  split at he <;> (try (cases he; done))
  · simp only [Option.some.injEq, Prod.mk.injEq] at he
    obtain ⟨rfl, rfl⟩ := he
    simp only [VR] at h2
    subst h2
    refine fine_pure hr (x := .pointer none) ?_ (by simp only [VR])
    rw [hrun]
    have : (Builtin.unsafeSliceData_ [ty].toArray o.type [Value.slice none 0 0].toArray).run P w = .ok (.pointer none) w := rfl
    simp only [builtin, Sem.run_bind, this, Result.andThen_ok, Sem.run_pure]
  · split at he <;> simp only [Option.some.injEq, Prod.mk.injEq, reduceCtorEq] at he
    rename_i so off len sz cap h0
    obtain ⟨rfl, rfl⟩ := he
    simp only [VR] at h2
    obtain ⟨hso, ad, cc, rfl, hlc, had, _, _⟩ := h2
    have had' : ad = ⟨(ρ so).b, (ρ so).d + off, none⟩ := had.resolve_left (by omega)
    refine fine_pure hr (x := .pointer (some ad)) ?_ (by simp only [VR]; exact ⟨hso, by rw [had']⟩)
    rw [hrun]
    obtain ⟨k, rfl⟩ : ∃ k, cc = k + 1 := ⟨cc - 1, by omega⟩
    have : (Builtin.unsafeSliceData_ [ty].toArray o.type [Value.slice (some ad) len (k + 1)].toArray).run P w = .ok (.pointer (some ad)) w := rfl
    simp only [builtin, Sem.run_bind, this, Result.andThen_ok, Sem.run_pure]
theorem run_loadBytes' {w : World} : ∀ (l : List Int) (a : Addr) (acc : ByteArray), (∀ (j : Nat) (x : Value), (l.map (Value.int .u8))[j]? = some x → w.cell? (a.add j) = some x) →
    (loadBytes a acc l.length).run P w = .ok ⟨acc.data ++ (l.map fun n => UInt8.ofNat n.toNat).toArray⟩ w
  | [], a, acc, _ => by simp [loadBytes]
  | x :: l, a, acc, h => by
    have h0 : w.cell? a = some (.int .u8 x) := by
      have := h 0 _ rfl
      simpa [Addr.add] using this
    have ih := run_loadBytes' l (a.add 1) (acc.push (UInt8.ofNat x.toNat)) (fun j y hy => by
      have := h (j + 1) y (by simpa using hy)
      have e : (a.add 1).add j = a.add (j + 1) := by
        unfold Addr.add
        by_cases hj : j = 0
        · subst hj; simp
        · simp [hj]; omega
      rw [e]; exact this)
    have hx : x.toNat.toUInt8 = UInt8.ofNat x.toNat := rfl
    simp only [List.length_cons, loadBytes, Sem.run_bind, run_load, h0, Result.andThen, hx]
    rw [ih]
    congr 1
    apply ByteArray.ext
    simp [ByteArray.push]
theorem liesAt_byte {e : TypeId} (hc : P.cellsOf e = 1) (count off n : Nat) (hn : off + n ≤ count) : liesAt P P.depth e count off e n = true := by
  have hd : P.depth = (2 * (P.types.size + Made.depth) + 1) + 1 := rfl
  rw [hd]
  simp only [liesAt, Bool.or_eq_true]
  left
  rw [hd]
  simp [rowAt, hc, hn, sameLayout, Nat.mod_one]
/-- unsafe.String: the bytes, copied; the row is not written any more. -/
theorem op_ustr {o : Oper} {c : Call} (ho : o.op = .call c) (hb : c.callee = .builtin .unsafeString) {ty u e : TypeId} (ht : c.argTypes.toList = [ty, u]) {sp sn : SX} (hx : c.args.toList.mapM slimX = some [sp, sn])
    (hu : P.underlying ty = some (.pointer e)) (hce : P.cellsOf e = 1)
    (hr : Rel W ρ H w) (ha : AR W ρ H.length t a) {v : AV} {H' : Heap} (he : aop (evx t) H (.ustr e sp sn) = some (v, H')) : Fine P W ρ H w o a v H' := by
  obtain ⟨pv, nv, h1, h2, h3⟩ := VRs_two (evxs_ok ha hx)
  obtain ⟨cs, hrun⟩ := run_builtin (P := P) (w := w) ho hb h1 ht
  simp only [aop] at he
  generalize evx t sp = p at he h2
  generalize evx t sn = n at he h3
  have hfin : ∀ {v1 : Value} {w1 : World} {ρ' : Plan}, (Builtin.unsafeString_ #[ty, u] o.type #[pv, nv]).run P w = .ok v1 w1 → Stp W ρ H w ρ' H' w1 → VR W ρ' H'.length v v1 → Fine P W ρ H w o a v H' := fun hv hs hw =>
    ⟨_, _, _, .inl (by rw [hrun]; simp only [builtin, Sem.run_bind, hv, Result.andThen_ok, Sem.run_pure]), hs, hw⟩
  split at he <;> (try (cases he; done))
  · rename_i m
    split at he <;> simp only [Option.some.injEq, Prod.mk.injEq, reduceCtorEq] at he
    rename_i hm
    subst hm
    obtain ⟨rfl, rfl⟩ := he
    simp only [VR] at h2 h3
    subst h2 h3
    exact hfin (v1 := .string .empty) (Lib.run_unsafeString_none w _ _ _ _) (.refl hr) (by simp only [VR]; rfl)
  · rename_i ob off m
    split at he <;> (try (cases he; done))
    rename_i L e' rw hH
    split at he <;> simp only [Option.map_eq_some_iff, Prod.mk.injEq, reduceCtorEq] at he
    rename_i hg
    obtain ⟨rfl, hm0, hm1, hg3⟩ := hg
    obtain ⟨bs, hbs, rfl, rfl⟩ := he
    simp only [VR] at h2 h3
    obtain ⟨hob, rfl⟩ := h2
    subst h3
    have hOR := hr.obj ob _ hH
    obtain ⟨ch, fr, hch, hchz, hLz, hLv, hLf⟩ := hOR
    have hold : aload H m.toNat (.ptr ob off) = some ((L.drop off).take m.toNat) := by simp only [aload, arow, hH, if_pos hg3]
    obtain ⟨a', xs, p1, p2, p3, p4, p5, p6, p7⟩ := aload_ok (p := .ptr ob off) (x := .pointer (some ⟨(ρ ob).b, (ρ ob).d + off, none⟩)) hr (by simp only [VR]; exact ⟨hob, trivial⟩) hold
    injection p1 with p1
    injection p1 with p1
    obtain ⟨ns, rfl, rfl⟩ := bytesOf_ok p2 hbs
    simp only [List.length_map] at p4
    have hload := run_loadBytes' (P := P) (w := w) ns a' .empty p5
    rw [p4] at hload
    have hsh : w.shape? (ρ ob).b = some (e', ch.size) := by simp [World.shape?, hch]
    have hlies := liesAt_byte (P := P) hce (ch.size / P.cellsOf e') ((ρ ob).d + off) m.toNat (by rw [hce, Nat.div_one]; omega)
    have hmax : IntKind.i64.max = 9223372036854775807 := rfl
    have hdef : Builtin.unsafeString_ #[ty, u] o.type #[.pointer (some ⟨(ρ ob).b, (ρ ob).d + off, none⟩), .int .i64 m] =
        (do
          let n ← asInt (.int .i64 m)
          if n < 0 then runtimePanic (.error "unsafe.String: len out of range")
          if n > IntKind.i64.max then unsupported (.unsafePointer "String: a length above the largest int")
          if n = 0 then pure (.string .empty)
          else if ← variablesAt ⟨(ρ ob).b, (ρ ob).d + off, none⟩ (← elemOf ty) n.toNat then do
            let s ← loadBytes ⟨(ρ ob).b, (ρ ob).d + off, none⟩ .empty n.toNat
            freeze ⟨(ρ ob).b, (ρ ob).d + off, none⟩ n.toNat
            pure (.string s)
          else unsupported (.unsafePointer "String: not so many bytes at ptr")) := rfl
    have h4 : ¬ (m < 0) := by omega
    have h5 : ¬ (9223372036854775807 < m) := by omega
    have h6 : ¬ (m = 0) := by omega
    rw [p1] at hdef
    have hrun1 : (Builtin.unsafeString_ #[ty, u] o.type #[.pointer (some a'), .int .i64 m]).run P w = .ok (.string ⟨(ns.map fun n => UInt8.ofNat n.toNat).toArray⟩) (w.freeze a' m.toNat) := by
      rw [hdef]
      have hvar : (variablesAt a' e' m.toNat).run P w = .ok true w := by
        rw [← p1]
        simp [variablesAt, hsh, hlies]
      simp [asInt, asIntOf, hmax, h4, h5, h6, elemOf, run_underlying' hu, hvar, hload]
    rw [p1]  at hfin
    have hfr : ∃ fr', (w.freeze a' m.toNat).heap[(ρ ob).b]? = some (.cells ch e' fr') := by
      unfold World.freeze
      rw [if_neg (by omega), ← p1]
      simp [Array.getElem?_modify, hch]
    obtain ⟨fr', hfr'⟩ := hfr
    refine hfin hrun1 (stp_set hr hH (by simp) ?_ ?_ ?_ ?_ (fun b hb => ?_) ⟨ch, fr', hfr', hchz, hLz, hLv, fun h => (by cases h), hLf.2⟩) (by simp only [VR])
    all_goals unfold World.freeze
    all_goals rw [if_neg (by omega)]
    · simp
    · rw [← p1]; simp [Array.getElem?_modify, Ne.symm hb]
theorem op_copy {o : Oper} {c : Call} (ho : o.op = .call c) (hb : c.callee = .builtin .copy) {ty u e : TypeId} {sz : Nat} (ht : c.argTypes.toList = [ty, u]) {sd ss : SX} (hx : c.args.toList.mapM slimX = some [sd, ss])
    (hu : P.underlying ty = some (.slice e)) (hsz : sizeT P e = some sz) (hsz0 : sz ≠ 0)
    (hr : Rel W ρ H w) (ha : AR W ρ H.length t a) {v : AV} {H' : Heap} (he : aop (evx t) H (.copy sz sd ss) = some (v, H')) : Fine P W ρ H w o a v H' := by
  obtain ⟨dv, xv, h1, h2, h3⟩ := VRs_two (evxs_ok ha hx)
  obtain ⟨cs, hrun⟩ := run_builtin (P := P) (w := w) ho hb h1 ht
  simp only [aop] at he
  generalize evx t sd = d at he h2
  generalize evx t ss = x at he h3
  have hfin : ∀ {v1 : Value} {w1 : World} {ρ' : Plan}, (Builtin.copy_ #[ty, u] o.type #[dv, xv]).run P w = .ok v1 w1 → Stp W ρ H w ρ' H' w1 → VR W ρ' H'.length v v1 → Fine P W ρ H w o a v H' := fun hv hs hw =>
    ⟨_, _, _, .inl (by rw [hrun]; simp only [builtin, Sem.run_bind, hv, Result.andThen_ok, Sem.run_pure]), hs, hw⟩
  split at he <;> (try (cases he; done))
  · simp only [Option.map_eq_some_iff] at he
    obtain ⟨n, hn, he⟩ := he
    obtain ⟨rfl, rfl⟩ := Prod.mk.inj he
    simp only [VR] at h2
    subst h2
    have h0 : (Builtin.lenOf xv).run P w = .ok n w ∧ ∃ cs, (Builtin.firstCells sz 0 xv).run P w = .ok cs w := by
      rcases alen_ok h3 hn with ⟨p, c, rfl⟩ | ⟨s, rfl, hs, _⟩
      · refine ⟨by simp [Builtin.lenOf], ?_⟩
        cases p with
        | none => exact ⟨#[], by simp [Builtin.firstCells]⟩
        | some p =>
          have := run_loadCells_xs (P := P) (w := w) (a := p) (xs := []) (k := 0) rfl (fun j x hj => by simp at hj)
          exact ⟨#[], by simpa [Builtin.firstCells] using this⟩
      · exact ⟨by simp [Builtin.lenOf, ← hs], _, by simp only [Builtin.firstCells, Sem.run_pure]; rfl⟩
    obtain ⟨k1, c', k2⟩ := h0
    refine hfin (v1 := .int .i64 0) (w1 := w) (ρ' := ρ) ?_ (.refl hr) (by simp [VR])
    unfold Builtin.copy_
    simp only [List.getElem?_toArray, List.getElem?_cons_zero, List.getElem?_cons_succ, Sem.run_bind, run_underlying' hu, Result.andThen_ok, run_sizeOf' hsz, Sem.run_pure, k1, show Nat.min n 0 = 0 by simp, k2]
    rfl
  · rename_i o' off len sz' cap
    split at he <;> (try (cases he; done))
    rename_i n l hn hl
    split at he <;> simp only [Option.map_eq_some_iff, reduceCtorEq] at he
    rename_i hg
    obtain ⟨hg1, hg2⟩ := hg
    subst hg1
    obtain ⟨H1, hst, he⟩ := he
    obtain ⟨rfl, rfl⟩ := Prod.mk.inj he
    obtain ⟨k1, xs, k2, k3, k4, k5⟩ := source_ok (P := P) hr h3 hn hl hg2
    simp only [VR] at h2
    obtain ⟨hso, ad, cc, hsv, hlc, had, hcz, hcap⟩ := h2
    subst hsv
    have hmin : min n len = Nat.min n len := rfl
    have k6 := k5 w rfl (Nat.min n len) (Nat.min_le_left _ _)
    by_cases hc0 : cc = 0
    · have hl0 : len = 0 := by omega
      have hm0 : Nat.min n len = 0 := by rw [hl0]; simp
      have hH : H1 = H := by
        simp only [hmin, hm0, Nat.zero_mul, List.take_zero, astore] at hst
        split at hst <;> (try (cases hst; done))
        rename_i L e2 hH
        split at hst <;> simp only [Option.some.injEq, reduceCtorEq] at hst
        rw [← hst]
        apply List.ext_getElem?
        intro j
        rw [List.getElem?_set]
        split
        · rename_i hj
          subst hj
          rw [hH]
          simp [splice]
        · rfl
      subst hH
      refine hfin (v1 := .int .i64 (Nat.min n len : Nat)) (w1 := w) (ρ' := ρ) ?_ (.refl hr) (by simp only [VR])
      unfold Builtin.copy_
      simp only [List.getElem?_toArray, List.getElem?_cons_zero, List.getElem?_cons_succ, Sem.run_bind, run_underlying' hu, Result.andThen_ok, run_sizeOf' hsz, Sem.run_pure, k1 w rfl, k6]
      rw [hm0]
      simp only [Nat.zero_mul, List.take_zero, Sem.run_pure, Result.andThen_ok, goInt]
      rfl
    · have had' : ad = ⟨(ρ o').b, (ρ o').d + off, none⟩ := by
        rcases had with h | h
        · exact absurd h hc0
        · exact h
      obtain ⟨a', w', q1, q2, q3⟩ := astore_ok (P := P) (p := .ptr o' off) (x := .pointer (some ad)) hr (by simp only [VR]; exact ⟨hso, by rw [had']⟩) (VRs_take k2 (min n len * sz')) hst
      injection q1 with q1
      injection q1 with q1
      subst q1
      refine hfin (v1 := .int .i64 (Nat.min n len : Nat)) (w1 := w') (ρ' := ρ) ?_ q3 (by simp only [VR])
      unfold Builtin.copy_
      simp only [List.getElem?_toArray, List.getElem?_cons_zero, List.getElem?_cons_succ, Sem.run_bind, run_underlying' hu, Result.andThen_ok, run_sizeOf' hsz, Sem.run_pure, k1 w rfl, k6]
      rw [hmin] at q2
      simp only [q2, Result.andThen_ok, Sem.run_pure, goInt]
theorem op_clear {o : Oper} {c : Call} (ho : o.op = .call c) (hb : c.callee = .builtin .clear) {ty e : TypeId} {z : AV} (ht : c.argTypes.toList = [ty]) {sx : SX} (hx : c.args.toList.mapM slimX = some [sx])
    (hu : P.underlying ty = some (.slice e)) (hz : zeroT P e = some z) (hz0 : z.cells.length ≠ 0)
    (hr : Rel W ρ H w) (ha : AR W ρ H.length t a) {v : AV} {H' : Heap} (he : aop (evx t) H (.clear z.cells sx) = some (v, H')) : Fine P W ρ H w o a v H' := by
  obtain ⟨xv, h1, h2⟩ := VRs_one (evxs_ok ha hx)
  obtain ⟨cs, hrun⟩ := run_builtin (P := P) (w := w) ho hb h1 ht
  simp only [aop] at he
  generalize evx t sx = x at he h2
  have hfin : ∀ {v1 : Value} {w1 : World} {ρ' : Plan}, (Builtin.clear_ #[ty] o.type #[xv]).run P w = .ok v1 w1 → Stp W ρ H w ρ' H' w1 → VR W ρ' H'.length v v1 → Fine P W ρ H w o a v H' := fun hv hs hw =>
    ⟨_, _, _, .inl (by rw [hrun]; simp only [builtin, Sem.run_bind, hv, Result.andThen_ok, Sem.run_pure]), hs, hw⟩
  have htup : VR W ρ H'.length (.tup []) (.tuple #[]) := by simp only [VR]; exact ⟨[], rfl, rfl⟩
  split at he <;> (try (cases he; done))
  · simp only [Option.some.injEq, Prod.mk.injEq] at he
    obtain ⟨rfl, rfl⟩ := he
    simp only [VR] at h2
    subst h2
    refine hfin (v1 := .tuple #[]) (w1 := w) (ρ' := ρ) ?_ (.refl hr) htup
    unfold Builtin.clear_
    simp [run_underlying' hu]
  · rename_i o' off len sz' cap
    simp only [VR] at h2
    obtain ⟨hso, ad, cc, hsv, hlc, had, hcz, hcap⟩ := h2
    subst hsv
    split at he
    · rename_i hl0
      simp only [Option.some.injEq, Prod.mk.injEq] at he
      obtain ⟨rfl, rfl⟩ := he
      subst hl0
      refine hfin (v1 := .tuple #[]) (w1 := w) (ρ' := ρ) ?_ (.refl hr) htup
      unfold Builtin.clear_
      simp [run_underlying' hu]
    · rename_i hl0
      simp only [Option.map_eq_some_iff] at he
      obtain ⟨H1, hst, he⟩ := he
      obtain ⟨rfl, rfl⟩ := Prod.mk.inj he
      obtain ⟨zv, hzr, hzc⟩ := zero_cells (P := P) (W := W) (ρ := ρ) (H := H) (w := w) hz
      have hrow := again_ok hzc hz0 len
      have hzl := VRs_length hzc
      simp only [Array.length_toList] at hzl
      have had' : ad = ⟨(ρ o').b, (ρ o').d + off, none⟩ := by
        rcases had with h | h
        · omega
        · exact h
      obtain ⟨a', w', q1, q2, q3⟩ := astore_ok (P := P) (p := .ptr o' off) (x := .pointer (some ad)) hr (by simp only [VR]; exact ⟨hso, by rw [had']⟩) hrow hst
      injection q1 with q1
      injection q1 with q1
      subst q1
      refine hfin (v1 := .tuple #[]) (w1 := w') (ρ' := ρ) ?_ q3 htup
      unfold Builtin.clear_
      match len, hl0 with
      | len + 1, _ =>
        rw [hzl] at q2
        simp only [List.getElem?_toArray, List.getElem?_cons_zero, Sem.run_bind, run_underlying' hu, Result.andThen_ok, hzr, Sem.run_pure, Builtin.zeroCells, q2]
end
end Go.Den

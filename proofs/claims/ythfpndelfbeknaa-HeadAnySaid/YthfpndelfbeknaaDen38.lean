/- Branches that are parted where the run stands still. -/
import Derived.Test.YthfpndelfbeknaaDen37
set_option linter.unusedVariables false
set_option linter.unusedSimpArgs false
namespace Go.Den
section
variable {cl : CL} {t : List AV} {H : Heap} {Q : AX → List AV → Heap → Prop}
theorem gets_guard {b : Bool} {o : SO} {d : Option Nat} {r : List SOp} : Gets (guardOps cl b o d r t H) Q = if b = true then Gets (thenOps cl (sop cl t H o) d r t) Q else Gets (ops cl r (put t d .undef) H) Q := by
  unfold guardOps; split <;> rfl
theorem gets_guardd {b : Bool} {o : SO} {dr : Option (List Nat)} {i : Nat} {m : List (Nat × Nat × Nat)} {d : Option Nat} {r : List SOp} : Gets (guardd b o dr cl i m d r t H) Q = if b = true then Gets (guardd true o dr cl i m d r t H) Q else Gets (opsd cl (i + 1) m r (put t d .undef) H) Q := by
  cases b <;> rfl
theorem wantsV_undef {b : Bool} : wantsV .undef b = false := _root_.id rfl
/-- One of two, by a value. -/
def EndsIf (cl : CL) (v : AV) (x y : SC) (t : List AV) (H : Heap) (Q : AX → List AV → Heap → Prop) : Prop := Cond v (Ends cl x t H Q) (Ends cl y t H Q)
theorem ends_cond' {e a b} : Ends cl (.cond e a b) t H Q = EndsIf cl (evx t e) a b t H Q := by rw [ends_cond]; rfl
theorem endsIf_true {a b} : EndsIf cl (.bool true) a b t H Q = Ends cl a t H Q := by simp [EndsIf, cond_bool]
theorem endsIf_false {a b} : EndsIf cl (.bool false) a b t H Q = Ends cl b t H Q := by simp [EndsIf, cond_bool]
theorem endsIf_any {c a b} : EndsIf cl (.bool c) a b t H Q = if c = true then Ends cl a t H Q else Ends cl b t H Q := by simp [EndsIf, cond_bool]
end
theorem ixa_n {H : Heap} {n len sz : Nat} {c : List AV} {k : IntKind} {i : Int} : ixaOf (some n) len sz (.agg c) (.int k i) H = if 0 ≤ i ∧ i < (len : Int) ∧ i.toNat * sz + n ≤ c.length then some (.agg ((c.drop (i.toNat * sz)).take n), H) else none := by
  simp only [ixaOf, Option.getD_some, Den.shape, Option.map_some]; rfl
theorem ixa_1 {H : Heap} {len sz : Nat} {c : List AV} {k : IntKind} {i : Int} : ixaOf none len sz (.agg c) (.int k i) H = if 0 ≤ i ∧ i < (len : Int) ∧ i.toNat * sz + 1 ≤ c.length then (one? ((c.drop (i.toNat * sz)).take 1)).map fun v => (v, H) else none := by
  simp only [ixaOf, Option.getD_none, Den.shape]; rfl
/-! ### Loops that are run round by round -/
section
variable {cl : CL} {t : List AV} {H : Heap} {Q : AX → List AV → Heap → Prop}
/-- A loop, where of the heap that it begins at only this is known. -/
theorem ends_loopH {a} (P : Heap → Prop) (I : Heap → Nat → List AV → Heap → Prop) (k : Nat) (hP : P H) (h : ∀ HB, P HB → I HB k t HB) (step : ∀ HB, P HB → ∀ k t H, I HB k t H → Ends cl a t H (again (I HB) k Q)) : Ends cl (.loop a) t H Q :=
  ends_loop (I H) k (h H hP) (step H hP)
def looped (cl : CL) (a : SC) (Q : AX → List AV → Heap → Prop) : AX → List AV → Heap → Prop
  | .normal, t, H => Ends cl (.loop a) t H Q
  | x, t, H => Q x t H
theorem looped_normal {a} : looped cl a Q .normal t H = Ends cl (.loop a) t H Q := _root_.id rfl
theorem looped_exit {a id} : looped cl a Q (.exit id) t H = Q (.exit id) t H := _root_.id rfl
theorem looped_ret {a} : looped cl a Q .ret t H = Q .ret t H := _root_.id rfl
theorem ends_unroll {a} : Ends cl (.loop a) t H Q = Ends cl a t H (looped cl a Q) := by
  apply propext
  simp only [Ends, code_loop, Option.bind_eq_some_iff]
  constructor
  · rintro ⟨s, ⟨⟨x, t1, H1⟩, h1, h2⟩, h3⟩
    refine ⟨_, h1, ?_⟩
    cases x with
    | normal => exact ⟨s, h2, h3⟩
    | exit id => injection h2 with h2; subst h2; exact h3
    | ret => injection h2 with h2; subst h2; exact h3
  · rintro ⟨⟨x, t1, H1⟩, h1, h2⟩
    cases x with
    | normal => obtain ⟨s, h3, h4⟩ := h2; exact ⟨s, ⟨_, h1, h3⟩, h4⟩
    | exit id => exact ⟨_, ⟨_, h1, rfl⟩, h2⟩
    | ret => exact ⟨_, ⟨_, h1, rfl⟩, h2⟩
end
/-! ### Results of several values -/
def resList (t : List AV) (H : Heap) (rs : List SRes) : Option (List AV) := rs.mapM (result1 t H)
def consRes : Option AV → Option (List AV) → Option (List AV)
  | some v, some l => some (v :: l)
  | _, _ => none
theorem res_many {t : List AV} {H : Heap} {a b : SRes} {r : List SRes} : resultOf t H (a :: b :: r) = (resList t H (a :: b :: r)).map .tup := _root_.id rfl
theorem resList_nil {t : List AV} {H : Heap} : resList t H [] = some [] := _root_.id rfl
theorem resList_cons {t : List AV} {H : Heap} {a : SRes} {r : List SRes} : resList t H (a :: r) = consRes (result1 t H a) (resList t H r) := by
  simp only [resList, List.mapM_cons]
  cases result1 t H a with
  | none => rfl
  | some v => cases h : List.mapM (result1 t H) r <;> simp [consRes]
theorem consRes_some {v : AV} {l : List AV} : consRes (some v) (some l) = some (v :: l) := _root_.id rfl
theorem result1_tmp {t : List AV} {H : Heap} {k : Nat} : result1 t H (.tmp k) = some (evx t (.t k)) := _root_.id rfl
theorem result1_cells {t : List AV} {H : Heap} {k n : Nat} : result1 t H (.cell k (some n)) = (aload H n (evx t (.t k))).map .agg := by simp only [result1, Option.getD_some, evx]; cases aload H n (t.getD k .undef) <;> rfl
theorem result1_cell {t : List AV} {H : Heap} {k : Nat} : result1 t H (.cell k none) = (aload H 1 (evx t (.t k))).bind one? := by simp only [result1, Option.getD_none, evx]; cases aload H 1 (t.getD k .undef) <;> rfl
/-! ### Rows made in a region that draws its order -/
theorem addMade_off {m : List (Nat × Nat × Nat)} {i L a b : Nat} (h : (a = b) = False) : addMade m i (L + a) (L + b) = m ++ [(i, L + a, b - a)] := by
  have : ¬ a = b := by rw [h]; exact not_false
  unfold addMade
  rw [if_neg (by omega), show L + b - (L + a) = b - a by omega]
theorem addMade_0 {m : List (Nat × Nat × Nat)} {i L b : Nat} (h : (b = 0) = False) : addMade m i L (L + b) = m ++ [(i, L, b)] := by
  have : ¬ b = 0 := by rw [h]; exact not_false
  unfold addMade
  rw [if_neg (by omega), show L + b - L = b by omega]
theorem shun_nil {u : List Nat} {v : AV} {n : Heap} : shun u [] v n = true := _root_.id rfl
theorem shun_cons {u : List Nat} {p : Nat × Nat × Nat} {m : List (Nat × Nat × Nat)} {v : AV} {n : Heap} : shun u (p :: m) v n = ((!u.contains p.1 || (v.leads (fun r => !inRows p r) && n.all fun o => o.leads fun r => !inRows p r)) && shun u m v n) := _root_.id rfl
theorem inRows_off {i L a c r : Nat} : inRows (i, L + a, c) (L + r) = (decide (a ≤ r) && decide (r < a + c)) := by
  unfold inRows; congr 1 <;> apply decide_eq_decide.2 <;> simp only [] <;> omega
theorem inRows_off0 {i L a c : Nat} : inRows (i, L + a, c) L = (decide (a ≤ 0) && decide (0 < a + c)) := by
  unfold inRows; congr 1 <;> apply decide_eq_decide.2 <;> simp only [] <;> omega
theorem inRows_at {i L c r : Nat} : inRows (i, L, c) (L + r) = decide (r < c) := by
  unfold inRows; simp
theorem inRows_at0 {i L c : Nat} : inRows (i, L, c) L = decide (0 < c) := by
  unfold inRows; simp
theorem veil_off {u : List Nat} {i a c : Nat} {m : List (Nat × Nat × Nat)} {H X : Heap} : veil u ((i, H.length + a, c) :: m) (H ++ X) = veil u m (H ++ if u.contains i = true then X.take a ++ (List.replicate c .dead ++ X.drop (a + c)) else X) := by
  rw [veil_cons]
  congr 1
  split
  · rw [take_app, Nat.add_assoc, drop_app]; simp
  · rfl
theorem veil_at {u : List Nat} {i c : Nat} {m : List (Nat × Nat × Nat)} {H X : Heap} : veil u ((i, H.length, c) :: m) (H ++ X) = veil u m (H ++ if u.contains i = true then List.replicate c .dead ++ X.drop c else X) := by
  have := veil_off (u := u) (i := i) (a := 0) (c := c) (m := m) (H := H) (X := X)
  simpa using this
theorem leads_ptr {p : Nat → Bool} {o a : Nat} : (AV.ptr o a).leads p = p o := _root_.id rfl
theorem leads_sl {p : Nat → Bool} {o a b c : Nat} {d : Option Nat} : (AV.sl o a b c d).leads p = p o := _root_.id rfl
theorem leads_int {p : Nat → Bool} {k : IntKind} {n : Int} : (AV.int k n).leads p = true := _root_.id rfl
theorem leads_bool {p : Nat → Bool} {b : Bool} : (AV.bool b).leads p = true := _root_.id rfl
theorem leads_str {p : Nat → Bool} {b : ByteArray} : (AV.str b).leads p = true := _root_.id rfl
theorem leads_nils {p : Nat → Bool} : AV.nils.leads p = true := _root_.id rfl
theorem leads_nili {p : Nat → Bool} : AV.nili.leads p = true := _root_.id rfl
theorem leads_nilp {p : Nat → Bool} : AV.nilp.leads p = true := _root_.id rfl
theorem leads_pv {p : Nat → Bool} {l : List AV} : (AV.pv l).leads p = true := _root_.id rfl
theorem leads_vs {p : Nat → Bool} {l : List AV} {n : Nat} : (AV.vs l n).leads p = true := _root_.id rfl
theorem leads_undef {p : Nat → Bool} : AV.undef.leads p = true := _root_.id rfl
theorem leads_agg {p : Nat → Bool} {l : List AV} : (AV.agg l).leads p = leadss p l := _root_.id rfl
theorem leads_tup {p : Nat → Bool} {l : List AV} : (AV.tup l).leads p = leadss p l := _root_.id rfl
theorem leadss_nil {p : Nat → Bool} : leadss p [] = true := _root_.id rfl
theorem leadss_cons {p : Nat → Bool} {a : AV} {l : List AV} : leadss p (a :: l) = (a.leads p && leadss p l) := _root_.id rfl
theorem leads_cells {p : Nat → Bool} {l : List AV} {e : TypeId} {w : Bool} : (AO.cells l e w).leads p = leadss p l := _root_.id rfl
theorem contains_nil {n : Nat} : ([] : List Nat).contains n = false := _root_.id rfl
theorem contains_cons {a n : Nat} {l : List Nat} : (a :: l).contains n = (n == a || l.contains n) := List.contains_cons
/-! ### One element of a slice -/
section
variable {α : Type} {H : Heap} {sz : Nat} {g : α → List AV} {v : AV} {l : List α}
theorem SlOf.elem (h : SlOf H sz g v l) {i : Nat} (hi : i < l.length) : (∀ k H', iaddrOf sz v (.int k (i : Int)) H' = some (cellAt v (i * sz), H')) ∧ (∀ q H', faddrOf q (cellAt v (i * sz)) H' = some (cellAt v (i * sz + q), H')) ∧
    (∀ q m X, q + m ≤ sz → aload (H ++ X) m (cellAt v (i * sz + q)) = some (((g l[i]).drop q).take m)) ∧ (∀ m X, m ≤ sz → aload (H ++ X) m (cellAt v (i * sz)) = some ((g l[i]).take m)) := by
  have hp := h.pos
  have hf := flat_fits (sz := sz) hi
  refine ⟨fun k H' => h.addr hi k H', fun q H' => h.field q _ (by omega) H', fun q m X hq => h.some' hi q m hq X, fun m X hm => ?_⟩
  have := h.some' hi 0 m (by omega) X
  simpa using this
theorem SlOf.elem0 (h : SlOf H sz g v l) {i : Nat} (hi : i < l.length) : (∀ k H', iaddrOf sz v (.int k (i : Int)) H' = some (cellAt v (i * sz), H')) ∧ (∀ q H', faddrOf q (cellAt v (i * sz)) H' = some (cellAt v (i * sz + q), H')) ∧
    (∀ q m, q + m ≤ sz → aload H m (cellAt v (i * sz + q)) = some (((g l[i]).drop q).take m)) ∧ (∀ m, m ≤ sz → aload H m (cellAt v (i * sz)) = some ((g l[i]).take m)) := by
  obtain ⟨h1, h2, h3, h4⟩ := h.elem hi
  refine ⟨h1, h2, fun q m hq => ?_, fun m hm => ?_⟩
  · have := h3 q m [] hq; rwa [List.append_nil] at this
  · have := h4 m [] hm; rwa [List.append_nil] at this
theorem SlOf.elemz (h : SlOf H sz g v l) (hi : 0 < l.length) : (∀ k H', iaddrOf sz v (.int k 0) H' = some (cellAt v 0, H')) ∧ (∀ q H', faddrOf q (cellAt v 0) H' = some (cellAt v q, H')) ∧
    (∀ q m X, q + m ≤ sz → aload (H ++ X) m (cellAt v q) = some (((g l[0]).drop q).take m)) := by
  obtain ⟨h1, h2, h3, h4⟩ := h.elem hi
  refine ⟨fun k H' => ?_, fun q H' => ?_, fun q m X hq => ?_⟩
  · have := h1 k H'; simpa using this
  · have := h2 q H'; simpa using this
  · have := h3 q m X hq; simpa using this
theorem SlOf.elemz0 (h : SlOf H sz g v l) (hi : 0 < l.length) : (∀ k H', iaddrOf sz v (.int k 0) H' = some (cellAt v 0, H')) ∧ (∀ q H', faddrOf q (cellAt v 0) H' = some (cellAt v q, H')) ∧
    (∀ q m, q + m ≤ sz → aload H m (cellAt v q) = some (((g l[0]).drop q).take m)) := by
  obtain ⟨h1, h2, h3⟩ := h.elemz hi
  refine ⟨h1, h2, fun q m hq => ?_⟩
  have := h3 q m [] hq; rwa [List.append_nil] at this
/-- A slice from an element on. -/
theorem SlOf.from (h : SlOf H sz g v l) {n : Nat} (hn : n ≤ l.length) : ∃ w, (∀ H', slcOf sz v (some (some n)) (some none) (some none) H' = some (w, H')) ∧ SlOf H sz g w (l.drop n) := by
  have hlen := h.len
  have hfl := flat_len h.size
  have hdf : ∀ n, (l.flatMap g).drop (n * sz) = (l.drop n).flatMap g := by
    intro n
    clear hn hlen hfl
    have hs := h.size
    clear h
    induction l generalizing n with
    | nil => simp
    | cons a l ih =>
      cases n with
      | zero => simp
      | succ n =>
        rw [List.flatMap_cons, Nat.succ_mul, Nat.add_comm, ← List.drop_drop, List.drop_left' (hs a (by simp)), List.drop_succ_cons]
        exact ih n fun b hb => hs b (by simp [hb])
  have hsz : ∀ a ∈ l.drop n, (g a).length = sz := fun a ha => h.size a (List.mem_of_mem_drop ha)
  have hms : n * sz + (l.length - n) * sz = l.length * sz := by rw [← Nat.add_mul]; congr 1; omega
  rcases h.kind with ⟨o, off, cap, row, h1, h2, h3, h4⟩ | ⟨m, h1⟩ | ⟨h1, h2⟩
  · subst h1
    refine ⟨.sl o (off + n * sz) (l.length - n) sz (cap.map (· - n)), fun H' => ?_, ⟨by simp [alen], hsz, h.pos, .inl ⟨o, off + n * sz, cap.map (· - n), row, by rw [List.length_drop], h2, ?_, ?_⟩⟩⟩
    · simp [slcOf, alen, acut, hn]
    · rw [← hdf, ← h3, List.length_drop, List.drop_take, List.drop_drop]
      congr 1
      omega
    · rw [List.length_drop]; omega
  · subst h1
    simp only [alen, Option.some.injEq] at hlen
    subst hlen
    refine ⟨.vs (((l.flatMap g).drop (n * sz)).take ((l.length - n) * sz)) (l.length - n), fun H' => ?_, ⟨by simp [alen], hsz, h.pos, .inr (.inl ⟨l.length - n, ?_⟩)⟩⟩
    · simp [slcOf, alen, acut, hn]
    · rw [hdf, List.take_of_length_le]
      rw [flat_len hsz, List.length_drop]; exact Nat.le_refl _
  · subst h1 h2
    have : n = 0 := by simpa using hn
    subst this
    exact ⟨.nils, fun H' => by simp [slcOf, alen, acut], by simpa using h⟩
end
/-- A value, or cells, that lead to no row. -/
def AV.still : AV → Bool
  | .agg l => l.all AV.flat
  | v => v.flat
theorem carry_still {n : Nat} {H1 : Heap} {m : Moved} {v : AV} (h : v.still = true) : v.carry n H1 m = some (v, m) := by
  cases v <;> first | exact carry_flat h | (simp only [AV.still] at h; simp only [AV.carry, carries_flat h, Option.map_some])
theorem carries_still {n : Nat} {H1 : Heap} {m : Moved} : ∀ {l : List AV}, l.all AV.still = true → carries n H1 m l = some (l, m)
  | [], _ => rfl
  | a :: l, h => by
    simp only [List.all_cons, Bool.and_eq_true] at h
    simp only [carries, carry_still h.1, Option.bind_some, carries_still h.2, Option.map_some]
theorem tidy_still {H X : Heap} {l : List AV} (h : l.all AV.still = true) : tidy H (.tup l) (H ++ X) = (.tup l, H) := by
  simp [tidy, keepOld_append, AV.carry, carries_still h]
theorem tidy_still0 {H : Heap} {l : List AV} (h : l.all AV.still = true) : tidy H (.tup l) H = (.tup l, H) := by
  simpa using tidy_still (X := []) h
/-! ### Slices that may be appended to -/
section
variable {α : Type} {H B X : Heap} {e : TypeId} {sz : Nat} {g : α → List AV} {v : AV} {l m : List α}
/-- Elements, each of so many plain cells. -/
structure Cel (sz : Nat) (g : α → List AV) : Prop where
  size : ∀ a, (g a).length = sz
  one : ∀ a, (g a).all AV.one = true
  flat : ∀ a, (g a).all AV.flat = true
  pos : 0 < sz
/-- A slice that nobody else holds. -/
def Own (H : Heap) (e : TypeId) (sz : Nat) (g : α → List AV) (v : AV) (l : List α) : Prop :=
  (v = .nils ∧ l = []) ∨ ∃ o, v = .sl o 0 l.length sz none ∧ H[o]? = some (.cells (l.flatMap g) e true)
def kill (v : AV) (H : Heap) : Heap := match v with | .sl o _ _ _ _ => H.set o .dead | _ => H
/-- What it comes to, with more elements. -/
def grow (e : TypeId) (sz : Nat) (g : α → List AV) (v : AV) (H : Heap) (l m : List α) : AV × Heap :=
  if m = [] then (v, H) else (.sl H.length 0 (l.length + m.length) sz none, kill v H ++ [.cells ((l ++ m).flatMap g) e true])
theorem kill_length {v : AV} {H : Heap} : (kill v H).length = H.length := by unfold kill; split <;> simp
theorem Own.nils : Own H e sz g .nils ([] : List α) := .inl ⟨rfl, rfl⟩
theorem Own.app (h : Own H e sz g v l) : Own (H ++ X) e sz g v l := by
  rcases h with h | ⟨o, h1, h2⟩
  · exact .inl h
  · exact .inr ⟨o, h1, getElem?_keep h2⟩
theorem Own.kill (h : Own H e sz g v l) : kill v (H ++ X) = kill v H ++ X := by
  rcases h with ⟨rfl, rfl⟩ | ⟨o, rfl, h2⟩
  · rfl
  · exact List.set_append_left _ _ (List.getElem?_eq_some_iff.1 h2).1
theorem kill_last {n o len s : Nat} {c : Option Nat} {K : Heap} {x : AO} (h : K.length = n) : Den.kill (.sl n o len s c) (K ++ [x]) = K ++ [.dead] := by
  subst h; simp [Den.kill]
theorem own_last {K : Heap} {n k : Nat} (h : K.length = n) (hk : k = l.length) : Own (K ++ [.cells (l.flatMap g) e true]) e sz g (.sl n 0 k sz none) l := by
  subst h hk; exact .inr ⟨K.length, rfl, by simp⟩
/-- To append to it. -/
theorem own_app (hg : Cel sz g) (h : Own H e sz g v l) {x : AV} (hm : m ≠ []) (hl : alen x = some m.length) (hn : newOf (H ++ B) sz x = some (m.flatMap g)) (hr : l.length + m.length ≤ 4294967296) :
    aapp (H ++ B) e sz v x = some (.sl (H.length + B.length) 0 (l.length + m.length) sz none, Den.kill v H ++ (B ++ [.cells ((l ++ m).flatMap g) e true])) := by
  have hm0 : m.length ≠ 0 := by simpa using hm
  have hmf : (m.flatMap g).length = m.length * sz := flat_len fun a _ => hg.size a
  have hlf : (l.flatMap g).length = l.length * sz := flat_len fun a _ => hg.size a
  have hone : (m.flatMap g).all AV.one = true := all_flatMap_one fun a _ => hg.one a
  rcases h with ⟨rfl, rfl⟩ | ⟨o, rfl, h2⟩
  · have hr' : roomy m.length = true := by simpa [roomy] using hr
    simp only [aapp, hl, hn, if_neg hm0, hmf, hone, and_self, if_true, hr']
    simp [Den.kill]
  · have hlt : o < H.length := (List.getElem?_eq_some_iff.1 h2).1
    have hH : (H ++ B)[o]? = some (.cells (l.flatMap g) e true) := getElem?_keep h2
    have hr' : roomy (l.length + m.length) = true := by simpa [roomy] using hr
    simp only [aapp, hl, hn, if_neg hm0, hmf, hone, and_self, if_true, hH, hr']
    simp [hlf, List.take_of_length_le, List.set_append_left _ _ hlt, Den.kill]
theorem keepOld_kill (n : Nat) : ∀ (H X : Heap) (v : AV), keepOld n H (Den.kill v H ++ X) = true
  | H, X, v => by
    unfold Den.kill
    split
    · exact keepOld_set n .dead rfl H _ X
    · exact keepOld_append n H X
/-- Behind the call. -/
theorem own_tidy (hg : Cel sz g) {k n : Nat} (hX : X[k]? = some (.cells ((l ++ m).flatMap g) e true)) (hn : n = l.length + m.length) (hm : m ≠ []) (hw : whole e = false := by decide) : tidy H (.sl (H.length + k) 0 n sz none) (Den.kill v H ++ X) = grow e sz g v H l m := by
  subst hn
  have hfl : ((l ++ m).flatMap g).all AV.flat = true := by
    simp only [List.all_flatMap, List.all_eq_true]
    exact fun a _ => by simpa using hg.flat a
  have hlm : ((l ++ m).flatMap g).length = (l.length + m.length) * sz := by rw [flat_len fun a _ => hg.size a, List.length_append]
  have hH : (Den.kill v H ++ X)[H.length + k]? = some (.cells ((l ++ m).flatMap g) e true) := by
    rw [List.getElem?_append_right (by rw [kill_length]; omega), kill_length, Nat.add_sub_cancel_left]; exact hX
  have hc : (AV.sl (H.length + k) 0 (l.length + m.length) sz none).carry H.length (Den.kill v H ++ X) ([], []) = some (.sl (H.length + 0) 0 (l.length + m.length) sz none, [H.length + k], [.cells ((l ++ m).flatMap g) e true]) := by
    simp only [AV.carry]
    rw [if_neg (by omega)]
    simp only [hH]
    have ht : List.take ((l.length + m.length) * sz) ((l ++ m).flatMap g) = (l ++ m).flatMap g := List.take_of_length_le (by omega)
    have hge : (l.length + m.length) * sz ≤ ((l ++ m).flatMap g).length := by omega
    simp only [List.drop_zero, ht, unders, leadss_flat hfl, Nat.zero_add, hge, hw, List.contains_nil, and_self, if_true, List.length_nil, List.nil_append]
  simp only [tidy, keepOld_kill, if_true, hc, Nat.add_zero, grow, if_neg hm]
  rw [List.take_append_of_le_length (by rw [kill_length]; exact Nat.le_refl _), List.take_of_length_le (by rw [kill_length]; exact Nat.le_refl _)]
theorem own_tidy0 (h : Own H e sz g v l) : tidy H v (H ++ X) = (v, H) := by
  rcases h with ⟨rfl, rfl⟩ | ⟨o, rfl, h2⟩
  · exact tidy_flat rfl
  · have hlt : o < H.length := (List.getElem?_eq_some_iff.1 h2).1
    simp [tidy, keepOld_append, AV.carry, hlt]
theorem own_sl (hg : Cel sz g) (h : Own H e sz g v l) : SlOf H sz g v l := by
  rcases h with ⟨rfl, rfl⟩ | ⟨o, rfl, h2⟩
  · exact SlOf.nils hg.pos
  · refine ⟨rfl, fun a _ => hg.size a, hg.pos, .inl ⟨o, 0, none, l.flatMap g, rfl, by simp [arow, h2], ?_, ?_⟩⟩
    · rw [List.drop_zero, List.take_of_length_le (by rw [flat_len fun a _ => hg.size a]; exact Nat.le_refl _)]
    · rw [flat_len fun a _ => hg.size a]; omega
end
theorem grow_some {α : Type} {e : TypeId} {sz : Nat} {g : α → List AV} {v : AV} {H : Heap} {l m : List α} (h : m ≠ []) : grow e sz g v H l m = (.sl H.length 0 (l.length + m.length) sz none, kill v H ++ [.cells ((l ++ m).flatMap g) e true]) := if_neg h
theorem kill_nils {H : Heap} : kill .nils H = H := _root_.id rfl
/-- A heap of the same length, in the place of another one. -/
theorem asK {H K : Heap} (h : K.length = H.length) :
    (∀ n o off X, aload (K ++ X) n (.ptr (H.length + o) off) = aload X n (.ptr o off)) ∧ (∀ n off X, aload (K ++ X) n (.ptr H.length off) = aload X n (.ptr 0 off)) ∧
    (∀ c o off X, astore (K ++ X) (.ptr (H.length + o) off) c = (astore X (.ptr o off) c).map (K ++ ·)) ∧ (∀ c off X, astore (K ++ X) (.ptr H.length off) c = (astore X (.ptr 0 off) c).map (K ++ ·)) ∧
    (∀ k X, (K ++ X).drop (H.length + k) = X.drop k) ∧ (∀ X, (K ++ X).drop H.length = X) ∧ (∀ k X, (K ++ X).take (H.length + k) = K ++ X.take k) ∧
    (∀ u i a c m X, veil u ((i, H.length + a, c) :: m) (K ++ X) = veil u m (K ++ if u.contains i = true then X.take a ++ (List.replicate c .dead ++ X.drop (a + c)) else X)) ∧
    (∀ o X Y, sameAt (H.length + o) (H ++ X) (K ++ Y) = sameAt o X Y) ∧ (∀ X Y, sameAt H.length (H ++ X) (K ++ Y) = sameAt 0 X Y) ∧
    (∀ o X Y, sameAt (H.length + o) (K ++ X) (K ++ Y) = sameAt o X Y) ∧ (∀ X Y, sameAt H.length (K ++ X) (K ++ Y) = sameAt 0 X Y) ∧ K.length = H.length := by
  refine ⟨fun n o off X => by rw [← h, aload_end], fun n off X => by rw [← h, aload_end0], fun c o off X => by rw [← h, astore_end], fun c off X => by rw [← h, astore_end0],
    fun k X => by rw [← h, drop_app], fun X => by rw [← h, drop_app0], fun k X => by rw [← h, take_app], fun u i a c m X => by rw [← h, veil_off],
    fun o X Y => sameAt_endK h, fun X Y => sameAt_endK0 h, fun o X Y => by rw [← h, sameAt_end], fun X Y => by rw [← h, sameAt_end0], h⟩
/-- Heaps of one length: what lies behind them. -/
theorem fam {α : Type} {B : α → Heap} {N : Nat} (h : ∀ a, (B a).length = N) :
    (∀ a n o off X, aload (B a ++ X) n (.ptr (N + o) off) = aload X n (.ptr o off)) ∧ (∀ a n off X, aload (B a ++ X) n (.ptr N off) = aload X n (.ptr 0 off)) ∧
    (∀ a c o off X, astore (B a ++ X) (.ptr (N + o) off) c = (astore X (.ptr o off) c).map (B a ++ ·)) ∧ (∀ a c off X, astore (B a ++ X) (.ptr N off) c = (astore X (.ptr 0 off) c).map (B a ++ ·)) ∧
    (∀ a k X, (B a ++ X).drop (N + k) = X.drop k) ∧ (∀ a X, (B a ++ X).drop N = X) ∧ (∀ a k X, (B a ++ X).take (N + k) = B a ++ X.take k) ∧
    (∀ a u i b c m X, veil u ((i, N + b, c) :: m) (B a ++ X) = veil u m (B a ++ if u.contains i = true then X.take b ++ (List.replicate c .dead ++ X.drop (b + c)) else X)) ∧
    (∀ a b o X Y, sameAt (N + o) (B a ++ X) (B b ++ Y) = sameAt o X Y) ∧ (∀ a b X Y, sameAt N (B a ++ X) (B b ++ Y) = sameAt 0 X Y) ∧ (∀ a, (B a).length = N) := by
  refine ⟨fun a n o off X => by rw [← h a, aload_end], fun a n off X => by rw [← h a, aload_end0], fun a c o off X => by rw [← h a, astore_end], fun a c off X => by rw [← h a, astore_end0],
    fun a k X => by rw [← h a, drop_app], fun a X => by rw [← h a, drop_app0], fun a k X => by rw [← h a, take_app], fun a u i b c m X => by rw [← h a, veil_off],
    fun a b o X Y => ?_, fun a b X Y => ?_, h⟩
  · rw [← h a]; exact sameAt_endK (by rw [h, h])
  · rw [← h a]; exact sameAt_endK0 (by rw [h, h])
/-- To append to a slice of which all room is taken. -/
theorem app_full {α : Type} {H : Heap} {e : TypeId} {sz : Nat} {g : α → List AV} {l m : List α} {o : Nat} {w : Bool} {x : AV} (hg : Cel sz g) (hrow : H[o]? = some (.cells (l.flatMap g) e w)) (hm : m ≠ []) (hl : alen x = some m.length) (hn : newOf H sz x = some (m.flatMap g)) (hr : l.length + m.length ≤ 4294967296) :
    aapp H e sz (.sl o 0 l.length sz (some l.length)) x = some (.sl H.length 0 (l.length + m.length) sz none, H ++ [.cells ((l ++ m).flatMap g) e true]) := by
  have hm0 : m.length ≠ 0 := by simpa using hm
  have hmf : (m.flatMap g).length = m.length * sz := flat_len fun a _ => hg.size a
  have hlf : (l.flatMap g).length = l.length * sz := flat_len fun a _ => hg.size a
  have hone : (m.flatMap g).all AV.one = true := all_flatMap_one fun a _ => hg.one a
  have hr' : roomy (l.length + m.length) = true := by simpa [roomy] using hr
  simp only [aapp, hl, hn, if_neg hm0, hmf, hone, and_self, if_true, hrow, hr']
  simp [hlf, List.take_of_length_le, show m.length > 0 by omega]
theorem carry_tup {n : Nat} {H1 : Heap} {m : Moved} {c : List AV} : (AV.tup c).carry n H1 m = (carries n H1 m c).map fun r => (.tup r.1, r.2) := by simp only [AV.carry]
theorem carries_cons {n : Nat} {H1 : Heap} {m : Moved} {a : AV} {l : List AV} : carries n H1 m (a :: l) = (a.carry n H1 m).bind fun r => (carries n H1 r.2 l).map fun q => (r.1 :: q.1, q.2) := by simp only [carries]
/-- A slice in new memory, first of what a call comes to. -/
theorem tidy_sl {H X : Heap} {k off len sz : Nat} {cap : Option Nat} {l : List AV} {e : TypeId} {w : Bool} {r : List AV} (hX : X[k]? = some (.cells l e w)) (hl : l.all AV.flat = true) (hlen : off + len * sz ≤ l.length) (hr : r.all AV.still = true) (hw : whole e = false := by decide) :
    tidy H (.tup (.sl (H.length + k) off len sz cap :: r)) (H ++ X) = (.tup (.sl H.length 0 len sz cap :: r), H ++ [.cells ((l.drop off).take (len * sz)) e w]) := by
  have hH : (H ++ X)[H.length + k]? = some (.cells l e w) := by
    rw [List.getElem?_append_right (by omega), Nat.add_sub_cancel_left]; exact hX
  have hfl : ((l.drop off).take (len * sz)).all AV.flat = true := by
    simp only [List.all_eq_true] at hl ⊢
    exact fun a ha => hl a (List.mem_of_mem_drop (List.mem_of_mem_take ha))
  have hc : (AV.sl (H.length + k) off len sz cap).carry H.length (H ++ X) ([], []) = some (.sl (H.length + 0) 0 len sz cap, [H.length + k], [.cells ((l.drop off).take (len * sz)) e w]) := by
    simp only [AV.carry]
    rw [if_neg (by omega)]
    simp only [hH, unders, leadss_flat hfl, hlen, hw, List.contains_nil, and_self, if_true, List.length_nil, List.nil_append]
  simp only [tidy, keepOld_append, if_true, carry_tup, carries_cons, hc, carries_still hr, Option.bind_some, Option.map_some, Nat.add_zero]
  rw [List.take_append_of_le_length (Nat.le_refl _), List.take_length]
theorem tidy_sl1 {H X : Heap} {k off len sz : Nat} {cap : Option Nat} {l : List AV} {e : TypeId} {w : Bool} (hX : X[k]? = some (.cells l e w)) (hl : l.all AV.flat = true) (hlen : off + len * sz ≤ l.length) (hw : whole e = false := by decide) :
    tidy H (.sl (H.length + k) off len sz cap) (H ++ X) = (.sl H.length 0 len sz cap, H ++ [.cells ((l.drop off).take (len * sz)) e w]) := by
  have hH : (H ++ X)[H.length + k]? = some (.cells l e w) := by
    rw [List.getElem?_append_right (by omega), Nat.add_sub_cancel_left]; exact hX
  have hfl : ((l.drop off).take (len * sz)).all AV.flat = true := by
    simp only [List.all_eq_true] at hl ⊢
    exact fun a ha => hl a (List.mem_of_mem_drop (List.mem_of_mem_take ha))
  have hc : (AV.sl (H.length + k) off len sz cap).carry H.length (H ++ X) ([], []) = some (.sl (H.length + 0) 0 len sz cap, [H.length + k], [.cells ((l.drop off).take (len * sz)) e w]) := by
    simp only [AV.carry]
    rw [if_neg (by omega)]
    simp only [hH, unders, leadss_flat hfl, hlen, hw, List.contains_nil, and_self, if_true, List.length_nil, List.nil_append]
  simp only [tidy, keepOld_append, if_true, hc, Nat.add_zero]
  rw [List.take_append_of_le_length (Nat.le_refl _), List.take_length]
theorem wrap_l0 : IntKind.i64.wrap 0 = 0 := wrap_i64 (by decide) (by decide)
theorem wrap_l1 : IntKind.i64.wrap 1 = 1 := wrap_i64 (by decide) (by decide)
theorem wrap_l2 : IntKind.i64.wrap 2 = 2 := wrap_i64 (by decide) (by decide)
theorem wrap_l3 : IntKind.i64.wrap 3 = 3 := wrap_i64 (by decide) (by decide)
theorem wrap_l4 : IntKind.i64.wrap 4 = 4 := wrap_i64 (by decide) (by decide)
theorem wrap_l5 : IntKind.i64.wrap 5 = 5 := wrap_i64 (by decide) (by decide)
theorem wrap_l6 : IntKind.i64.wrap 6 = 6 := wrap_i64 (by decide) (by decide)
theorem wrap_l7 : IntKind.i64.wrap 7 = 7 := wrap_i64 (by decide) (by decide)
theorem wrap_l8 : IntKind.i64.wrap 8 = 8 := wrap_i64 (by decide) (by decide)
theorem wrap_l9 : IntKind.i64.wrap 9 = 9 := wrap_i64 (by decide) (by decide)
theorem wrap_l10 : IntKind.i64.wrap 10 = 10 := wrap_i64 (by decide) (by decide)
/-- Behind a law's call: nothing was there before it. -/
theorem tidy_law {X : Heap} {b : Bool} : tidy [] (.bool b) X = (.bool b, []) := by
  have := @tidy_flat [] X (.bool b) rfl
  simpa using this
theorem tidy_agg' {H X : Heap} {l : List AV} (h : l.all AV.flat = true) : tidy H (.agg l) (H ++ X) = (.agg l, H) := tidy_agg h
theorem tidy_tup' {H X : Heap} {l : List AV} (h : l.all AV.flat = true) : tidy H (.tup l) (H ++ X) = (.tup l, H) := tidy_tup h
end Go.Den

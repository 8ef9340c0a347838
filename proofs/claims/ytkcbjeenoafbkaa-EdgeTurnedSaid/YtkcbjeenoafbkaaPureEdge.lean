/- Chapter 16: the edges of contours, in plain law. -/
import Derived.Test.YtkcbjeenoafbkaaC16a
set_option linter.unusedVariables false
set_option linter.unusedSimpArgs false
namespace Go.Proofs.Ytkcbjeenoafbkaa
open Go Go.Den
structure Point where
  x : Int
  y : Int
  on : Bool
  deriving DecidableEq
structure Node where
  p : Pt
  on : Bool
  deriving DecidableEq
def nodeP (px : Int) (p : Point) : Node := ⟨⟨2 * px * p.x, 2 * px * p.y⟩, p.on⟩
def midP (px : Int) (p q : Point) : Node := ⟨⟨px * (p.x + q.x), px * (p.y + q.y)⟩, true⟩
def stepN (px : Int) (last p : Point) : List Node := (if p.on = false ∧ last.on = false then [midP px p last] else []) ++ [nodeP px p]
def goW (px : Int) : Point → List Point → List Node
  | _, [] => []
  | last, p :: r => stepN px last p ++ goW px p r
def lastP' (c : List Point) : Point := c.getLastD ⟨0, 0, false⟩
def W (px : Int) (c : List Point) : List Node := goW px (lastP' c) c
/-- The place of the first node of a point on the outline. -/
def atN (px : Int) : Point → List Point → Option Nat
  | _, [] => none
  | last, p :: r => if p.on then some 0 else (atN px p r).map (· + (stepN px last p).length)
def atW (px : Int) (c : List Point) : Nat := (atN px (lastP' c) c).getD 0
def rotN {α : Type} (l : List α) (k : Nat) : List α := l.drop k ++ l.take k
def wayP (px : Int) (c : List Point) : List Node := rotN (W px c) (atW px c)
def ringP (l : List Node) : List Node := l ++ l.take 1
def keepE (e : Edge) : List Edge := if Same e then [] else [e]
def edgeL (n : Int) (f : Pt) (m : Pt) : Edge := ⟨n, false, f, ⟨0, 0⟩, m⟩
def edgeQ (n : Int) (f b m : Pt) : Edge := ⟨n, true, f, b, m⟩
def edgeO (n : Int) (f : Pt) : Option Pt → Pt → Edge
  | none, m => edgeL n f m
  | some b, m => edgeQ n f b m
/-- The edges of nodes behind a place. -/
def runE (n : Int) : Pt → Option Pt → List Node → List Edge
  | _, _, [] => []
  | f, b, m :: r => if m.on then keepE (edgeO n f b m.p) ++ runE n m.p none r else runE n f (some m.p) r
def ringE (n : Int) : List Node → List Edge
  | [] => []
  | m :: r => runE n m.p none (r ++ [m])
def contourP (px n : Int) (c : List Point) : List Edge := ringE n (wayP px c)
/-- Two next to each other: one is on the outline. -/
def chainN : Node → List Node → Prop
  | _, [] => True
  | a, b :: r => (a.on = true ∨ b.on = true) ∧ chainN b r
theorem chain_app : ∀ {a : Node} {x y : List Node}, chainN a (x ++ y) ↔ chainN a x ∧ chainN (x.getLastD a) y
  | a, [], y => by simp [chainN]
  | a, b :: x, y => by
    simp only [List.cons_append, chainN, chain_app (a := b) (x := x), and_assoc]
    cases x <;> simp [List.getLastD]
theorem last_go (px : Int) : ∀ (last : Point) (c : List Point) (z : Node), (goW px last c).getLastD z = if c = [] then z else nodeP px (c.getLastD last)
  | last, [], z => rfl
  | last, p :: r, z => by
    rw [if_neg (by simp), goW]
    have h1 : (stepN px last p ++ goW px p r).getLastD z = (goW px p r).getLastD (nodeP px p) := by
      unfold stepN
      split
      · cases h : goW px p r <;> simp [List.getLastD]
      · cases h : goW px p r <;> simp [List.getLastD]
    rw [h1, last_go px p r]
    cases r <;> simp [List.getLastD]
theorem chain_go (px : Int) : ∀ (last : Point) (c : List Point), chainN (nodeP px last) (goW px last c)
  | last, [] => trivial
  | last, p :: r => by
    have ih := chain_go px p r
    rw [goW]
    unfold stepN
    split
    · exact ⟨.inr rfl, .inl rfl, ih⟩
    · rename_i h
      refine ⟨?_, ih⟩
      show last.on = true ∨ p.on = true
      cases h1 : p.on <;> cases h2 : last.on <;> simp_all
theorem go_ne (px : Int) (last : Point) {c : List Point} (h : c ≠ []) : goW px last c ≠ [] := by
  cases c with
  | nil => exact absurd rfl h
  | cons p r => rw [goW]; unfold stepN; simp
theorem go_len (px : Int) : ∀ (last : Point) (c : List Point), c.length ≤ (goW px last c).length ∧ (goW px last c).length ≤ 2 * c.length
  | last, [] => by simp [goW]
  | last, p :: r => by
    have ih := go_len px p r
    rw [goW, List.length_append, List.length_cons]
    have : (stepN px last p).length = 1 ∨ (stepN px last p).length = 2 := by unfold stepN; split <;> simp
    omega
/-- At the first point on the outline there is a node on the outline. -/
theorem at_on (px : Int) : ∀ (last : Point) (c : List Point) (k : Nat), atN px last c = some k → ∃ m, (goW px last c)[k]? = some m ∧ m.on = true
  | last, [], k, h => by cases h
  | last, p :: r, k, h => by
    rw [atN] at h
    by_cases hp : p.on = true
    · rw [if_pos hp] at h
      injection h with h; subst h
      refine ⟨nodeP px p, ?_, hp⟩
      rw [goW]; unfold stepN; rw [if_neg (by simp [hp])]; rfl
    · rw [if_neg hp, Option.map_eq_some_iff] at h
      obtain ⟨k', h1, rfl⟩ := h
      obtain ⟨m, h2, h3⟩ := at_on px p r k' h1
      refine ⟨m, ?_, h3⟩
      rw [goW, List.getElem?_append_right (by omega), Nat.add_sub_cancel]; exact h2
theorem at_none (px : Int) : ∀ (last : Point) (c : List Point), atN px last c = none → ∀ p ∈ c, p.on = false
  | last, [], h => by simp
  | last, p :: r, h => by
    rw [atN] at h
    by_cases hp : p.on = true
    · rw [if_pos hp] at h; cases h
    · rw [if_neg hp, Option.map_eq_none_iff] at h
      intro q hq
      rcases List.mem_cons.1 hq with rfl | hq
      · simpa using hp
      · exact at_none px p r h q hq
theorem last_mem {c : List Point} (h : c ≠ []) : lastP' c ∈ c := by
  unfold lastP'
  rw [List.getLastD_eq_getLast?, List.getLast?_eq_some_getLast h]
  exact List.getLast_mem h
/-- The way begins on the outline. -/
theorem atW_on (px : Int) {c : List Point} (h : c ≠ []) : ∃ m, (W px c)[atW px c]? = some m ∧ m.on = true := by
  unfold atW W
  cases ha : atN px (lastP' c) c with
  | some k => exact at_on px _ c k ha
  | none =>
    have hn := at_none px _ c ha
    have hl := hn _ (last_mem h)
    cases c with
    | nil => exact absurd rfl h
    | cons p r =>
      refine ⟨midP px p (lastP' (p :: r)), ?_, rfl⟩
      rw [goW]; unfold stepN
      rw [if_pos ⟨hn p (by simp), hl⟩]; rfl
theorem chain_ring {px : Int} {c : List Point} (h : c ≠ []) {A B : List Node} {m : Node} (hW : W px c = A ++ m :: B) : chainN m (B ++ A ++ [m]) ↔ (chainN m B ∧ chainN (nodeP px (lastP' c)) (A ++ [m])) := by
  have hl : (A ++ m :: B).getLastD m = nodeP px (lastP' c) := by
    rw [← hW]
    unfold W
    rw [last_go, if_neg h]
    unfold lastP'
    cases c with
    | nil => exact absurd rfl h
    | cons p r => cases r <;> simp [List.getLastD]
  have hb : B.getLastD m = nodeP px (lastP' c) := by
    rw [← hl]
    cases B with
    | nil => simp [List.getLastD_eq_getLast?]
    | cons b B => simp [List.getLastD_eq_getLast?, List.getLast?_eq_some_getLast (List.cons_ne_nil b B)]
  rw [List.append_assoc, chain_app, hb]
/-- No two next to each other are off the outline: also round the end. -/
theorem chain_round {px : Int} {c : List Point} (h : c ≠ []) {A B : List Node} {m : Node} (hW : W px c = A ++ m :: B) : chainN m (B ++ A ++ [m]) := by
  rw [chain_ring h hW]
  have := chain_go px (lastP' c) c
  rw [show goW px (lastP' c) c = A ++ m :: B from hW, chain_app] at this
  obtain ⟨h1, h2, h3⟩ := this
  exact ⟨h3, chain_app.2 ⟨h1, h2, trivial⟩⟩
/-- The nodes behind the first one of a ring: each that is off is followed by one that is on. -/
def fineN : List Node → Prop
  | [] => True
  | m :: r => if m.on = true then fineN r else match r with
    | [] => False
    | k :: r' => k.on = true ∧ fineN r'
theorem fine_of : ∀ (l : List Node) (a : Node), chainN a l → (l.getLastD a).on = true → fineN l
  | [], a, _, _ => trivial
  | [m], a, h, hl => by
    have : m.on = true := hl
    unfold fineN; rw [if_pos this]; trivial
  | m :: k :: r, a, h, hl => by
    unfold fineN
    have h2 := fine_of (k :: r) m h.2 (by simpa [List.getLastD] using hl)
    by_cases hm : m.on = true
    · rw [if_pos hm]; exact h2
    · rw [if_neg hm]
      have hk : k.on = true := by
        rcases h.2.1 with h | h
        · exact absurd h hm
        · exact h
      refine ⟨hk, ?_⟩
      have h3 := h2
      unfold fineN at h3
      rwa [if_pos hk] at h3
theorem way_split {px : Int} {c : List Point} (h : c ≠ []) : ∃ A B m, W px c = A ++ m :: B ∧ A.length = atW px c ∧ m.on = true ∧ wayP px c = m :: (B ++ A) := by
  obtain ⟨m, h1, h2⟩ := atW_on px h
  have hlt := (List.getElem?_eq_some_iff.1 h1).1
  have h3 : (W px c)[atW px c] = m := (List.getElem?_eq_some_iff.1 h1).2
  refine ⟨(W px c).take (atW px c), (W px c).drop (atW px c + 1), m, ?_, by simp; omega, h2, ?_⟩
  · rw [← h3, ← List.drop_eq_getElem_cons hlt, List.take_append_drop]
  · unfold wayP rotN; rw [List.drop_eq_getElem_cons hlt, h3]; rfl
theorem way_fine {px : Int} {c : List Point} (h : c ≠ []) : ∃ m r, wayP px c = m :: r ∧ m.on = true ∧ fineN (r ++ [m]) := by
  obtain ⟨A, B, m, h1, _, h2, h3⟩ := way_split (px := px) h
  refine ⟨m, B ++ A, h3, h2, ?_⟩
  exact fine_of _ m (chain_round h h1) (by simp [List.getLastD_eq_getLast?, h2])
theorem way_len {px : Int} {c : List Point} : (wayP px c).length = (W px c).length := by
  unfold wayP rotN
  rw [List.length_append, List.length_drop, List.length_take]; omega
/- What edges may be. -/
theorem run_len (n : Int) : ∀ (l : List Node) (f : Pt) (b : Option Pt), (runE n f b l).length ≤ l.length
  | [], f, b => by simp [runE]
  | m :: r, f, b => by
    rw [runE]
    split
    · have := run_len n r m.p none
      have h2 : (keepE (edgeO n f b m.p)).length ≤ 1 := by unfold keepE; split <;> simp
      simp only [List.length_append, List.length_cons]; omega
    · have := run_len n r f (some m.p)
      simp only [List.length_cons]; omega
theorem contour_len (px n : Int) (c : List Point) : (contourP px n c).length ≤ 2 * c.length := by
  unfold contourP
  have h := (go_len px (lastP' c) c).2
  have h1 := way_len (px := px) (c := c)
  unfold W at h1
  cases hw : wayP px c with
  | nil => simp [ringE]
  | cons m r =>
    rw [hw] at h1
    have := run_len n (r ++ [m]) m.p none
    simp only [ringE, List.length_append, List.length_cons, List.length_nil] at this h1 ⊢
    omega
theorem run_one (n : Int) : ∀ (l : List Node) (f : Pt) (b : Option Pt), Fine f → (∀ q, b = some q → Fine q) → (∀ m ∈ l, Fine m.p) → ∀ e ∈ runE n f b l, One e ∧ e.n = n
  | [], f, b, _, _, _, e, he => by simp [runE] at he
  | m :: r, f, b, hf, hb, hl, e, he => by
    rw [runE] at he
    have hm := hl m (by simp)
    split at he
    · rcases List.mem_append.1 he with he | he
      · unfold keepE at he
        split at he
        · simp at he
        · rename_i hs
          simp only [List.mem_singleton] at he
          subst he
          cases b with
          | none => exact ⟨⟨hf, by simp [edgeO, edgeL, Fine], hm, hs, fun _ => ⟨rfl, rfl⟩⟩, rfl⟩
          | some q => exact ⟨⟨hf, hb q rfl, hm, hs, fun h => by cases h⟩, rfl⟩
      · exact run_one n r m.p none hm (by simp) (fun x hx => hl x (by simp [hx])) e he
    · exact run_one n r f (some m.p) hf (fun q hq => by injection hq with hq; subst hq; exact hm) (fun x hx => hl x (by simp [hx])) e he
/-- Edges, one behind the other. -/
def path : Pt → List Edge → Pt → Prop
  | s, [], t => s = t
  | s, e :: r, t => e.a = s ∧ path e.c r t
theorem path_app : ∀ {s t u : Pt} {x y : List Edge}, path s x t → path t y u → path s (x ++ y) u
  | s, t, u, [], y, h1, h2 => by cases h1; exact h2
  | s, t, u, e :: x, y, h1, h2 => ⟨h1.1, path_app h1.2 h2⟩
theorem keep_path {e : Edge} : path e.a (keepE e) e.c := by
  unfold keepE
  split
  · rename_i h; exact pt_ext h.1 h.2.1
  · exact ⟨rfl, rfl⟩
theorem edgeO_a {n : Int} {f m : Pt} {b : Option Pt} : (edgeO n f b m).a = f ∧ (edgeO n f b m).c = m ∧ (edgeO n f b m).n = n := by cases b <;> exact ⟨rfl, rfl, rfl⟩
theorem run_path (n : Int) : ∀ (l : List Node) (f : Pt) (b : Option Pt), (∀ z, (l.getLastD ⟨z, true⟩).on = true) → (l = [] → b = none) → path f (runE n f b l) (l.getLastD ⟨f, true⟩).p
  | [], f, b, h, hb => rfl
  | m :: r, f, b, h, hb => by
    rw [runE]
    have hr : ∀ z, (r.getLastD ⟨z, true⟩).on = true := fun z => by
      cases r with
      | nil => rfl
      | cons k r => have := h z; simpa [List.getLastD] using this
    by_cases hm : m.on = true
    · rw [if_pos hm]
      have h1 := run_path n r m.p none hr (fun _ => rfl)
      have h2 := @keep_path (edgeO n f b m.p)
      rw [edgeO_a.1, edgeO_a.2.1] at h2
      have h3 := path_app h2 h1
      have : (m :: r).getLastD ⟨f, true⟩ = r.getLastD ⟨m.p, true⟩ := by
        cases r with
        | nil => obtain ⟨p, on⟩ := m; simp only at hm; subst hm; rfl
        | cons k r => simp [List.getLastD]
      rw [this]; exact h3
    · rw [if_neg hm]
      have hne : r ≠ [] := fun hr0 => by
        subst hr0
        exact hm (h f)
      have h1 := run_path n r f (some m.p) hr (fun h0 => absurd h0 hne)
      have : (m :: r).getLastD ⟨f, true⟩ = r.getLastD ⟨f, true⟩ := by
        cases r with
        | nil => exact absurd rfl hne
        | cons k r => simp [List.getLastD]
      rw [this]; exact h1
/-- A contour's edges close. -/
theorem contour_path {px n : Int} {c : List Point} (h : c ≠ []) : ∃ s, path s (contourP px n c) s := by
  obtain ⟨m, r, h1, h2, h3⟩ := way_fine (px := px) h
  refine ⟨m.p, ?_⟩
  unfold contourP ringE
  rw [h1]
  have := run_path n (r ++ [m]) m.p none (fun z => by simp [List.getLastD_eq_getLast?, h2]) (by simp)
  simpa [List.getLastD_eq_getLast?] using this
def edgesFrom (px : Int) : Nat → List (List Point) → List Edge
  | _, [] => []
  | i, c :: r => contourP px i c ++ edgesFrom px (i + 1) r
theorem edges_from_n {px : Int} : ∀ {l : List (List Point)} {i : Nat}, (∀ c ∈ l, ∀ j : Nat, ∀ e ∈ contourP px j c, e.n = j) → ∀ e ∈ edgesFrom px i l, (i : Int) ≤ e.n
  | [], i, h, e, he => by simp [edgesFrom] at he
  | c :: r, i, h, e, he => by
    rw [edgesFrom] at he
    rcases List.mem_append.1 he with he | he
    · rw [h c (by simp) i e he]; exact Int.le_refl _
    · have := edges_from_n (l := r) (i := i + 1) (fun c hc => h c (by simp [hc])) e he
      omega
theorem closed_rest {first : Edge} {s : Pt} {n : Int} {y : List Edge} (hf : first.a = s) (hy : closedP y = true) (hn : ∀ e ∈ y, e.n ≠ n) : ∀ (x : List Edge) (prev : Edge), prev.n = n → (∀ e ∈ x, e.n = n) → path prev.c x s → closedRest first prev (x ++ y) = true
  | [], prev, hp, hx, h => by
    cases y with
    | nil => simp only [List.append_nil, closedRest]; rw [show prev.c = s from h, hf]; simp
    | cons e r =>
      simp only [List.nil_append, closedRest]
      rw [if_neg (by rw [hp]; exact hn e (by simp)), show prev.c = s from h, hf]
      simpa [closedP] using hy
  | e :: x, prev, hp, hx, h => by
    have he := hx e (by simp)
    simp only [List.cons_append, closedRest]
    rw [if_pos (by rw [he, hp]), closed_rest hf hy hn x e he (fun e' h' => hx e' (by simp [h'])) h.2]
    simp [h.1]
theorem closed_app {n : Int} {s : Pt} {x y : List Edge} (hx : ∀ e ∈ x, e.n = n) (hp : path s x s) (hy : closedP y = true) (hn : ∀ e ∈ y, e.n ≠ n) : closedP (x ++ y) = true := by
  cases x with
  | nil => exact hy
  | cons e x => exact closed_rest hp.1 hy hn x e (hx e (by simp)) (fun e' h' => hx e' (by simp [h'])) hp.2
theorem edges_closed {px : Int} : ∀ {l : List (List Point)} {i : Nat}, (∀ c ∈ l, c ≠ [] ∧ ∀ j : Nat, ∀ e ∈ contourP px j c, e.n = j) → closedP (edgesFrom px i l) = true
  | [], i, h => rfl
  | c :: r, i, h => by
    obtain ⟨s, hs⟩ := contour_path (px := px) (n := (i : Int)) (h c (by simp)).1
    exact closed_app ((h c (by simp)).2 i) hs (edges_closed fun c hc => h c (by simp [hc])) (fun e he => by
      have := edges_from_n (l := r) (i := i + 1) (fun c hc => (h c (by simp [hc])).2) e he
      omega)
/-- Points that may be. -/
def FarOk (p : Point) : Prop := -32767 ≤ p.x ∧ p.x ≤ 32767 ∧ -32767 ≤ p.y ∧ p.y ≤ 32767
theorem mul_le {a b A B : Int} (ha : 0 ≤ a) (hA : a ≤ A) (hb : -B ≤ b) (hB : b ≤ B) : -(A * B) ≤ a * b ∧ a * b ≤ A * B := by
  have hB0 : 0 ≤ B := by omega
  have h1 : a * b ≤ a * B := Int.mul_le_mul_of_nonneg_left hB ha
  have h2 : a * B ≤ A * B := Int.mul_le_mul_of_nonneg_right hA hB0
  have h3 : a * -B ≤ a * b := Int.mul_le_mul_of_nonneg_left hb ha
  rw [Int.mul_neg] at h3
  omega
theorem node_fine {px : Int} (h1 : 1 ≤ px) (h2 : px ≤ 128) {p : Point} (hp : FarOk p) : Fine (nodeP px p).p := by
  obtain ⟨a, b, c, d⟩ := hp
  have hx := mul_le (a := 2 * px) (A := 256) (B := 32767) (by omega) (by omega) a b
  have hy := mul_le (a := 2 * px) (A := 256) (B := 32767) (by omega) (by omega) c d
  unfold Fine nodeP; simp only; omega
theorem mid_fine {px : Int} (h1 : 1 ≤ px) (h2 : px ≤ 128) {p q : Point} (hp : FarOk p) (hq : FarOk q) : Fine (midP px p q).p := by
  obtain ⟨a, b, c, d⟩ := hp
  obtain ⟨a', b', c', d'⟩ := hq
  have hx := mul_le (a := px) (b := p.x + q.x) (A := 128) (B := 65534) (by omega) (by omega) (by omega) (by omega)
  have hy := mul_le (a := px) (b := p.y + q.y) (A := 128) (B := 65534) (by omega) (by omega) (by omega) (by omega)
  unfold Fine midP; simp only; omega
theorem go_fine {px : Int} (h1 : 1 ≤ px) (h2 : px ≤ 128) : ∀ {c : List Point} {last : Point}, FarOk last → (∀ p ∈ c, FarOk p) → ∀ m ∈ goW px last c, Fine m.p
  | [], last, hl, hc, m, hm => by simp [goW] at hm
  | p :: r, last, hl, hc, m, hm => by
    have hp := hc p (by simp)
    rw [goW] at hm
    rcases List.mem_append.1 hm with hm | hm
    · unfold stepN at hm
      rcases List.mem_append.1 hm with hm | hm
      · split at hm
        · simp only [List.mem_singleton] at hm; subst hm; exact mid_fine h1 h2 hp hl
        · simp at hm
      · simp only [List.mem_singleton] at hm; subst hm; exact node_fine h1 h2 hp
    · exact go_fine h1 h2 hp (fun q hq => hc q (by simp [hq])) m hm
theorem contour_one {px n : Int} (h1 : 1 ≤ px) (h2 : px ≤ 128) {c : List Point} (h : c ≠ []) (hc : ∀ p ∈ c, FarOk p) : ∀ e ∈ contourP px n c, One e ∧ e.n = n := by
  have hw : ∀ m ∈ wayP px c, Fine m.p := fun m hm => by
    unfold wayP rotN at hm
    have : m ∈ W px c := by
      rcases List.mem_append.1 hm with hm | hm
      · exact List.mem_of_mem_drop hm
      · exact List.mem_of_mem_take hm
    exact go_fine h1 h2 (hc _ (last_mem h)) hc m this
  unfold contourP
  cases hx : wayP px c with
  | nil => intro e he; simp [ringE] at he
  | cons m r =>
    rw [hx] at hw
    exact run_one n _ m.p none (hw m (by simp)) (by simp) (fun x hx => by
      rcases List.mem_append.1 hx with hx | hx
      · exact hw x (by simp [hx])
      · simp only [List.mem_singleton] at hx; subst hx; exact hw x (by simp))
theorem run_split (n : Int) : ∀ (l : List Node) (f : Pt) (b : Option Pt) (m : Node) (r : List Node), m.on = true → runE n f b (l ++ m :: r) = runE n f b (l ++ [m]) ++ runE n m.p none r
  | [], f, b, m, r, h => by simp [runE, h]
  | k :: l, f, b, m, r, h => by
    simp only [List.cons_append, runE]
    split
    · rw [run_split n l k.p none m r h, List.append_assoc]
    · exact run_split n l f (some k.p) m r h
theorem ring_turn (n : Int) {x0 y0 : Node} {x y : List Node} (hx : x0.on = true) (hy : y0.on = true) :
    ∃ e1 e2, ringE n ((x0 :: x) ++ (y0 :: y)) = e1 ++ e2 ∧ ringE n ((y0 :: y) ++ (x0 :: x)) = e2 ++ e1 := by
  refine ⟨runE n x0.p none (x ++ [y0]), runE n y0.p none (y ++ [x0]), ?_, ?_⟩
  · simp only [List.cons_append, ringE, List.append_assoc]
    exact run_split n x x0.p none y0 (y ++ [x0]) hy
  · simp only [List.cons_append, ringE, List.append_assoc]
    exact run_split n y y0.p none x0 (x ++ [y0]) hx
theorem go_app (px : Int) : ∀ (last : Point) (x y : List Point), goW px last (x ++ y) = goW px last x ++ goW px (x.getLastD last) y
  | last, [], y => rfl
  | last, p :: x, y => by
    simp only [List.cons_append, goW, go_app px p x y, List.append_assoc]
    cases x <;> simp [List.getLastD]
theorem go_on {px : Int} {p : Point} (h : p.on = true) (z : Point) (r : List Point) : goW px z (p :: r) = nodeP px p :: goW px p r := by
  rw [goW]; unfold stepN; rw [if_neg (by simp [h])]; rfl
theorem last_app {x : List Point} {p : Point} {y : List Point} : lastP' (x ++ p :: y) = (p :: y).getLastD ⟨0, 0, false⟩ := by
  unfold lastP'; simp [List.getLastD_eq_getLast?, List.getLast?_append, List.getLast?_eq_some_getLast (List.cons_ne_nil p y)]
theorem getD_ne {p : Point} {y : List Point} (a b : Point) : (p :: y).getLastD a = (p :: y).getLastD b := by
  simp [List.getLastD_eq_getLast?, List.getLast?_eq_some_getLast (List.cons_ne_nil p y)]
theorem W_turn {px : Int} {x : List Point} {p : Point} {y : List Point} (h : p.on = true) : ∃ a b, W px (x ++ p :: y) = a ++ nodeP px p :: b ∧ W px (p :: y ++ x) = nodeP px p :: b ++ a ∧ atW px (p :: y ++ x) = 0 := by
  refine ⟨goW px (lastP' (x ++ p :: y)) x, goW px p y, ?_, ?_, ?_⟩
  · unfold W; rw [go_app, go_on h]
  · unfold W
    rw [go_app, go_on h, last_app]
    congr 1
  · unfold atW; rw [List.cons_append, atN, if_pos h]; rfl
theorem contour_turn {px n : Int} {x : List Point} {p : Point} {y : List Point} (h : p.on = true) : ∃ e1 e2, contourP px n (x ++ p :: y) = e1 ++ e2 ∧ contourP px n (p :: y ++ x) = e2 ++ e1 := by
  obtain ⟨a, b, h1, h2, h3⟩ := W_turn (px := px) (x := x) (y := y) h
  have hk : (nodeP px p).on = true := h
  obtain ⟨A, B, m, g1, g2, g3, g4⟩ := way_split (px := px) (c := x ++ p :: y) (by simp)
  have w2 : wayP px (p :: y ++ x) = nodeP px p :: b ++ a := by unfold wayP rotN; rw [h3, h2]; simp
  unfold contourP
  rw [w2, g4]
  rw [h1] at g1
  generalize nodeP px p = k at *
  clear h1 h2 h3 w2 g2 g4
  rcases List.append_eq_append_iff.1 g1 with ⟨d, e1, e2⟩ | ⟨d, e1, e2⟩
  · cases d with
    | nil =>
      simp only [List.append_nil, List.nil_append] at e1 e2
      injection e2 with e2 e3
      subst e1 e2 e3
      exact ⟨ringE n (k :: b ++ A), [], by simp, by simp⟩
    | cons z d =>
      simp only [List.cons_append] at e2
      injection e2 with e2 e3
      subst e2
      have := ring_turn n (x0 := m) (y0 := k) (x := B ++ a) (y := d) g3 hk
      rw [e1, e3]
      simpa using this
  · cases d with
    | nil =>
      simp only [List.append_nil, List.nil_append] at e1 e2
      injection e2 with e2 e3
      subst e1 e2 e3
      exact ⟨ringE n (m :: B ++ a), [], by simp, by simp⟩
    | cons z d =>
      simp only [List.cons_append] at e2
      injection e2 with e2 e3
      subst e2
      have := ring_turn n (x0 := m) (y0 := k) (x := d) (y := b ++ A) g3 hk
      rw [e1, e3]
      simpa using this
end Go.Proofs.Ytkcbjeenoafbkaa

/- Chapter 30: atlas.Encode. -/
import Derived.Test.YtppkggodpihfiaaC30t
import Derived.Test.YtppkggodpihfiaaC30q
set_option linter.unusedVariables false
set_option linter.unusedSimpArgs false
set_option maxRecDepth 100000
set_option maxHeartbeats 4000000
namespace Go.Proofs.Ytppkggodpihfiaa
open Go Go.Den
def entB (e : Ent) : List UInt8 := shB [e.wd] ++ (loB [e.c.x, e.c.y] ++ shB [e.c.w, e.c.h, e.pg, e.x, e.y])
def prB (p : Pr) : List UInt8 := loB [p.code] ++ shB [p.glyph]
def hdB (a : Atl) : List UInt8 := magicL ++ (shB [a.em, a.px, a.rg, a.up, a.down, a.gap, a.w, a.h, (a.pgs.length : Int), (a.gl.length : Int)] ++ loB [(a.pr.length : Int)])
def encP0 (a : Atl) : List UInt8 := hdB a ++ (a.gl.flatMap entB ++ (a.pr.flatMap prB ++ a.pgs.flatten))
def encP (a : Atl) : List UInt8 := encP0 a ++ putB (crcN (encP0 a)) 4
theorem entB_len (e : Ent) : (entB e).length = 20 := by unfold entB; simp only [List.length_append, shB_len, loB_len, List.length_cons, List.length_nil]
theorem prB_len (p : Pr) : (prB p).length = 6 := by unfold prB; simp only [List.length_append, shB_len, loB_len, List.length_cons, List.length_nil]
theorem hdB_len (a : Atl) : (hdB a).length = 30 := by unfold hdB magicL; simp only [List.length_append, shB_len, loB_len, List.length_cons, List.length_nil]
theorem ents_len (l : List Ent) : (l.flatMap entB).length = 20 * l.length := by
  induction l with
  | nil => rfl
  | cons a l ih => simp only [List.flatMap_cons, List.length_append, entB_len, ih, List.length_cons]; omega
theorem prs_len (l : List Pr) : (l.flatMap prB).length = 6 * l.length := by
  induction l with
  | nil => rfl
  | cons a l ih => simp only [List.flatMap_cons, List.length_append, prB_len, ih, List.length_cons]; omega
theorem crcN_lt (l : List UInt8) : crcN l < 4294967296 := BitVec.isLt _
theorem flat_take {α β : Type} {f : α → List β} {l : List α} {i : Nat} (h : i < l.length) : (l.take (i + 1)).flatMap f = (l.take i).flatMap f ++ f l[i] := by
  rw [List.take_succ_eq_append_getElem h, List.flatMap_append]; simp
theorem join_take {β : Type} {l : List (List β)} {i : Nat} (h : i < l.length) : (l.take (i + 1)).flatten = (l.take i).flatten ++ l[i] := by
  rw [List.take_succ_eq_append_getElem h, List.flatten_append]; simp
theorem join_le {β : Type} (l : List (List β)) (i : Nat) : (l.take i).flatten.length ≤ l.flatten.length := by
  have h : l.flatten.length = (l.take i).flatten.length + (l.drop i).flatten.length := by
    rw [← List.length_append, ← List.flatten_append, List.take_append_drop]
  omega
section
variable {H R : Heap} {box : AO} {bs : List UInt8}
theorem wr_short (h : Bl 110 (H ++ [box]) R bs) (l : List Int) (hb : bs.length + 2 * l.length ≤ 900000) (h0 : 0 < l.length) :
    ∃ R', call env 52 [.ptr (H.length + 1) 0, .sl (H.length + (R.length + 1)) 0 l.length 1 (some l.length)] (H ++ (box :: (R ++ [.cells (l.flatMap IntC) 3 true]))) = some (.tup [], H ++ (box :: R')) ∧ Bl 110 (H ++ [box]) R' (bs ++ shB l) ∧ Keep 110 R R' := by
  have hK : (H ++ [box]).length = H.length + 1 := by simp
  obtain ⟨r, e, R', rfl, hB, hk⟩ := c52 (h.app [.cells (l.flatMap IntC) 3 true]) (v := .sl (H.length + (R.length + 1)) 0 l.length 1 (some l.length)) (l := l) ⟨R.length, by rw [hK]; congr 1; omega, by simp⟩ hb h0
  rw [hK] at e
  simp only [List.append_assoc, List.cons_append, List.nil_append] at e
  exact ⟨R', e, hB, hk.more _⟩
theorem wr_long (h : Bl 110 (H ++ [box]) R bs) (l : List Int) (hb : bs.length + 4 * l.length ≤ 900000) (h0 : 0 < l.length) :
    ∃ R', call env 53 [.ptr (H.length + 1) 0, .sl (H.length + (R.length + 1)) 0 l.length 1 (some l.length)] (H ++ (box :: (R ++ [.cells (l.flatMap IntC) 3 true]))) = some (.tup [], H ++ (box :: R')) ∧ Bl 110 (H ++ [box]) R' (bs ++ loB l) ∧ Keep 110 R R' := by
  have hK : (H ++ [box]).length = H.length + 1 := by simp
  obtain ⟨r, e, R', rfl, hB, hk⟩ := c53 (h.app [.cells (l.flatMap IntC) 3 true]) (v := .sl (H.length + (R.length + 1)) 0 l.length 1 (some l.length)) (l := l) ⟨R.length, by rw [hK]; congr 1; omega, by simp⟩ hb h0
  rw [hK] at e
  simp only [List.append_assoc, List.cons_append, List.nil_append] at e
  exact ⟨R', e, hB, hk.more _⟩
theorem wr_str (h : Bl 110 (H ++ [box]) R bs) {s : List UInt8} (hs : s ≠ []) (hl : bs.length + s.length ≤ 1000000) :
    ∃ R', call env 34 [.ptr (H.length + 1) 0, .str (mkS s)] (H ++ (box :: R)) = some (.tup [.int .i64 (s.length : Int), .nili], H ++ (box :: R')) ∧ Bl 110 (H ++ [box]) R' (bs ++ s) ∧ Keep 110 R R' := by
  have hK : (H ++ [box]).length = H.length + 1 := by simp
  obtain ⟨R', e, hB, hk, _⟩ := c34 h hs hl
  rw [hK] at e
  simp only [List.append_assoc, List.cons_append, List.nil_append] at e
  exact ⟨R', e, hB, hk⟩
theorem wr_got (h : Bl 110 (H ++ [box]) R bs) (hl : bs.length ≤ 1000000) :
    ∃ R', call env 37 [.ptr (H.length + 1) 0] (H ++ (box :: R)) = some (.str (mkS bs), H ++ (box :: R')) ∧ Bl 110 (H ++ [box]) R' bs ∧ Keep 110 R R' := by
  have hK : (H ++ [box]).length = H.length + 1 := by simp
  obtain ⟨R', e, hB, hk⟩ := c37 h hl
  rw [hK] at e
  simp only [List.append_assoc, List.cons_append, List.nil_append] at e
  exact ⟨R', e, hB, hk⟩
end
end Go.Proofs.Ytppkggodpihfiaa

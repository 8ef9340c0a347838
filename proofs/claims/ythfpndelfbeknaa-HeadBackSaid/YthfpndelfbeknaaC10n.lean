/- Chapter 10: what is made is parsed again. -/
import Derived.Test.YthfpndelfbeknaaC10m
set_option linter.unusedVariables false
set_option linter.unusedSimpArgs false
set_option maxRecDepth 100000
set_option maxHeartbeats 1000000
namespace Go.Proofs.Ythfpndelfbeknaa
open Go Go.Den
def aL (h : Hd) : List UInt8 := b16 1 ++ zs 10 ++ putB 1594834165 4 ++ zs 2 ++ b16 h.em ++ zs 30 ++ b16 (if h.long then 1 else 0) ++ zs 2
def bL (h : Hd) : List UInt8 := putB 65536 4 ++ b16 h.up ++ b16 h.down ++ b16 h.gap ++ zs 24 ++ b16 h.metrics
def cL (h : Hd) : List UInt8 := putB 65536 4 ++ b16 h.glyphs ++ zs 26
def MakeH (h : Hd) : List Tab := [⟨tHead, aL h⟩, ⟨tHhea, bL h⟩, ⟨tMaxp, cL h⟩]
theorem num_b16 (n : Int) : num (b16 n) = (n % 65536).toNat := by
  have h : (n % 65536).toNat < 65536 := by omega
  unfold b16
  generalize (n % 65536).toNat = x at h ⊢
  simp [num, putB]; omega
theorem sg_b16 {n : Int} (h : Short n) : sg (n % 65536).toNat = n := by
  obtain ⟨h1, h2⟩ := h
  unfold sg; split <;> omega
theorem make_back {h : Hd} (m : MayH h) : ParseR (MakeH h) = (h, 0) := by
  obtain ⟨m1, m2, m3, m4, m5, m6, m7, m8, m9⟩ := m
  have f1 : findP tHead (MakeH h) = some (aL h) := by simp [MakeH, findP]
  have f2 : findP tMaxp (MakeH h) = some (cL h) := by simp [MakeH, findP, tHead, tMaxp, tHhea]
  have f3 : findP tHhea (MakeH h) = some (bL h) := by simp [MakeH, findP, tHead, tMaxp, tHhea]
  have l1 : (aL h).length = 54 := rfl
  have l2 : (cL h).length = 32 := rfl
  have l3 : (bL h).length = 36 := rfl
  have a0 : n2 (aL h) 0 = num (b16 1) := rfl
  have a2 : n2 (aL h) 2 = num (zs 2) := rfl
  have a12 : n4 (aL h) 12 = num (putB 1594834165 4) := rfl
  have a18 : n2 (aL h) 18 = num (b16 h.em) := rfl
  have a50 : n2 (aL h) 50 = num (b16 (if h.long then 1 else 0)) := rfl
  have a52 : n2 (aL h) 52 = num (zs 2) := rfl
  have b0 : n4 (bL h) 0 = num (putB 65536 4) := rfl
  have b4 : n2 (bL h) 4 = num (b16 h.up) := rfl
  have b6 : n2 (bL h) 6 = num (b16 h.down) := rfl
  have b8 : n2 (bL h) 8 = num (b16 h.gap) := rfl
  have b32 : n2 (bL h) 32 = num (zs 2) := rfl
  have b34 : n2 (bL h) 34 = num (b16 h.metrics) := rfl
  have c0 : n4 (cL h) 0 = num (putB 65536 4) := rfl
  have c4 : n2 (cL h) 4 = num (b16 h.glyphs) := rfl
  rw [show num (zs 2) = 0 from by decide] at a2 a52 b32
  rw [show num (putB 65536 4) = 65536 from by decide] at b0 c0
  rw [show num (putB 1594834165 4) = 1594834165 from by decide] at a12
  rw [num_b16] at a0 a18 a50 b4 b6 b8 b34 c4
  have hl : n2 (aL h) 50 = if h.long then 1 else 0 := by rw [a50]; cases h.long <;> rfl
  have ok1 : headOk (aL h) := ⟨by rw [a0]; rfl, a2, a12, by omega, by omega, by rw [hl]; split <;> omega, a52⟩
  have ok3 : hheaOk (bL h) (n2 (cL h) 4 : Nat) := ⟨b0, b32, by omega, by omega⟩
  have e1 : headE (aL h) = 0 := by unfold headE; rw [l1, if_neg (by omega), if_pos ok1]
  have e2 : maxpE (cL h) = 0 := by unfold maxpE; rw [l2, if_neg (by omega), c0, if_neg (by simp), if_neg (by omega), if_neg (by omega)]
  have e3 : hheaE (bL h) (n2 (cL h) 4 : Nat) = 0 := by unfold hheaE; rw [l3, if_neg (by omega), if_pos ok3]
  have g1 : ((h.em % 65536).toNat : Int) = h.em := by omega
  have g2 : ((h.glyphs % 65536).toNat : Int) = h.glyphs := by omega
  have g3 : ((h.metrics % 65536).toNat : Int) = h.metrics := by omega
  unfold ParseR
  rw [f1, f2, f3]
  simp only
  rw [if_neg (by simp [e1]), if_neg (by simp [e2]), if_neg (by simp [e3])]
  obtain ⟨em, long, glyphs, metrics, up, down, gap⟩ := h
  simp only [headH, maxpH, hheaH, zeroH, Prod.mk.injEq, and_true, Hd.mk.injEq]
  refine ⟨by rw [a18]; exact g1, ?_, by rw [c4]; exact g2, by rw [b34]; exact g3, by rw [b4]; exact sg_b16 m7, by rw [b6]; exact sg_b16 m8, by rw [b8]; exact sg_b16 m9⟩
  rw [hl]; cases long <;> rfl
/-- Bytes laid over others. -/
def over (a : List UInt8) (k : Nat) (s : List UInt8) : List UInt8 := a.take k ++ s ++ a.drop (k + s.length)
theorem over_u8s (a : List UInt8) (k : Nat) (s : List UInt8) : splice (u8s a) k (u8s s) = u8s (over a k s) := by
  simp [splice, u8s, over]
theorem put_at {H : Heap} {o k n : Nat} {a s : List UInt8} (h : H[o]? = some (.cells (u8s a) 5 true)) (hc : a.length = n) (hk : k + s.length ≤ n) :
    call env 90 [.sl o 0 n 1 (some n), .int .i64 (k : Int), .str (mkS s)] H = some (.tup [], H.set o (.cells (u8s (over a k s)) 5 true)) := by
  have := c90 h (by rw [u8s_len, hc]) hk (by rw [over_u8s]; exact u8s_flat _)
  rwa [over_u8s] at this
/-- Three pages, behind a head. -/
def pg (H : Heap) (c : List AV) (x y z : List UInt8) : Heap := H ++ [.cells c 71 true, .cells (u8s x) 5 true, .cells (u8s y) 5 true, .cells (u8s z) 5 true]
theorem pg1 {H : Heap} {c : List AV} {x y z : List UInt8} : (pg H c x y z)[H.length + 1]? = some (.cells (u8s x) 5 true) := by simp [pg, List.getElem?_append_right]
theorem pg2 {H : Heap} {c : List AV} {x y z : List UInt8} : (pg H c x y z)[H.length + 2]? = some (.cells (u8s y) 5 true) := by simp [pg, List.getElem?_append_right]
theorem pg3 {H : Heap} {c : List AV} {x y z : List UInt8} : (pg H c x y z)[H.length + 3]? = some (.cells (u8s z) 5 true) := by simp [pg, List.getElem?_append_right]
theorem put1 {H : Heap} {c : List AV} {x y z s : List UInt8} {k : Nat} (hx : x.length = 54) (hk : k + s.length ≤ 54) : call env 90 [.sl (H.length + 1) 0 54 1 (some 54), .int .i64 (k : Int), .str (mkS s)] (pg H c x y z) = some (.tup [], pg H c (over x k s) y z) := by
  rw [put_at pg1 hx hk]; simp [pg, List.set_append_right]
theorem put2 {H : Heap} {c : List AV} {x y z s : List UInt8} {k : Nat} (hx : y.length = 36) (hk : k + s.length ≤ 36) : call env 90 [.sl (H.length + 2) 0 36 1 (some 36), .int .i64 (k : Int), .str (mkS s)] (pg H c x y z) = some (.tup [], pg H c x (over y k s) z) := by
  rw [put_at pg2 hx hk]; simp [pg, List.set_append_right]
theorem put3 {H : Heap} {c : List AV} {x y z s : List UInt8} {k : Nat} (hx : z.length = 32) (hk : k + s.length ≤ 32) : call env 90 [.sl (H.length + 3) 0 32 1 (some 32), .int .i64 (k : Int), .str (mkS s)] (pg H c x y z) = some (.tup [], pg H c x y (over z k s)) := by
  rw [put_at pg3 hx hk]; simp [pg, List.set_append_right]

theorem shun_un {made : List (Nat × Nat × Nat)} {v : AV} {new : Heap} : shun [] made v new = true := by simp [shun]
theorem veil_un : ∀ {made : List (Nat × Nat × Nat)} {H : Heap}, veil [] made H = H
  | [], H => rfl
  | p :: r, H => by simp only [veil, List.contains_nil, Bool.false_eq_true, if_false]; exact veil_un
end Go.Proofs.Ythfpndelfbeknaa

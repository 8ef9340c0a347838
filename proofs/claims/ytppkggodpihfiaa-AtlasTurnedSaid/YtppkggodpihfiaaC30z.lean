/- Chapter 30, in plain law: what is encoded is decoded to the same atlas. -/
import Derived.Test.YtppkggodpihfiaaC30w
set_option linter.unusedVariables false
set_option linter.unusedSimpArgs false
namespace Go.Proofs.Ytppkggodpihfiaa
open Go Go.Den
theorem num_put2 {x : Nat} (h : x < 65536) : num (putB x 2) = x := by
  simp [num, putB]; omega
theorem num_put4 {x : Nat} (h : x < 4294967296) : num (putB x 4) = x := by
  simp [num, putB]; omega
theorem n2_app {x y : List UInt8} {a : Nat} (h : x.length ≤ a) : n2 (x ++ y) a = n2 y (a - x.length) := by
  unfold n2; rw [List.drop_append, List.drop_of_length_le h, List.nil_append]
theorem n4_app {x y : List UInt8} {a : Nat} (h : x.length ≤ a) : n4 (x ++ y) a = n4 y (a - x.length) := by
  unfold n4; rw [List.drop_append, List.drop_of_length_le h, List.nil_append]
theorem n2_put {n : Nat} {y : List UInt8} (h : n < 65536) : n2 (putB n 2 ++ y) 0 = n := by
  unfold n2; rw [List.drop_zero, List.take_append_of_le_length (by rw [putB_len]; exact Nat.le_refl _), List.take_of_length_le (by rw [putB_len]; exact Nat.le_refl _), num_put2 h]
theorem n4_put {n : Nat} {y : List UInt8} (h : n < 4294967296) : n4 (putB n 4 ++ y) 0 = n := by
  unfold n4; rw [List.drop_zero, List.take_append_of_le_length (by rw [putB_len]; exact Nat.le_refl _), List.take_of_length_le (by rw [putB_len]; exact Nat.le_refl _), num_put4 h]
theorem sg16_u {n : Int} (h : Short n) : sg16 (u16N n) = n := by unfold Short at h; unfold sg16 u16N; split <;> omega
theorem sg32_u {n : Int} (h : -2147483648 ≤ n ∧ n ≤ 2147483647) : sg32 (u32N n) = n := by unfold sg32 u32N; split <;> omega
theorem u16_u {n : Int} (h : 0 ≤ n ∧ n ≤ 65535) : ((u16N n : Nat) : Int) = n := by unfold u16N; omega
theorem u32_u {n : Int} (h : 0 ≤ n ∧ n ≤ 4294967295) : ((u32N n : Nat) : Int) = n := by unfold u32N; omega
/-- Numbers that fit. -/
def FitE (e : Ent) : Prop := (0 ≤ e.wd ∧ e.wd ≤ 65535) ∧ (-1048576 ≤ e.c.x ∧ e.c.x ≤ 1048576) ∧ (-1048576 ≤ e.c.y ∧ e.c.y ≤ 1048576) ∧ (0 ≤ e.c.w ∧ e.c.w ≤ 256) ∧ (0 ≤ e.c.h ∧ e.c.h ≤ 256) ∧ (0 ≤ e.pg ∧ e.pg ≤ 65535) ∧ (0 ≤ e.x ∧ e.x ≤ 65535) ∧ (0 ≤ e.y ∧ e.y ≤ 65535)
theorem fit_ent {e : Ent} {w h n : Int} (hw : w ≤ 1024) (hh : h ≤ 1024) (hn : n ≤ 16) (H : OkE w h n e) : FitE e := by
  obtain ⟨h1, h2, h3, h4, h5⟩ := H
  unfold FitE
  by_cases hz : ZeroC e.c
  · obtain ⟨z1, z2, z3⟩ := h4 hz
    unfold ZeroC at hz
    omega
  · have h5 := h5 hz
    unfold MayC at h3
    unfold ZeroC at hz
    omega
theorem ent_here {X Y : List UInt8} {e : Ent} (h : FitE e) : entAt (X ++ (entB e ++ Y)) X.length = e := by
  obtain ⟨wd, ⟨cx, cy, cw, ch⟩, pg, ex, ey⟩ := e
  obtain ⟨h1, h2, h3, h4, h5, h6, h7, h8⟩ := h
  simp only at h1 h2 h3 h4 h5 h6 h7 h8
  unfold entAt
  have hl : ∀ j, n2 (X ++ (entB ⟨wd, ⟨cx, cy, cw, ch⟩, pg, ex, ey⟩ ++ Y)) (X.length + j) = n2 (entB ⟨wd, ⟨cx, cy, cw, ch⟩, pg, ex, ey⟩ ++ Y) j := fun j => by rw [n2_app (by omega), Nat.add_sub_cancel_left]
  have hl4 : ∀ j, n4 (X ++ (entB ⟨wd, ⟨cx, cy, cw, ch⟩, pg, ex, ey⟩ ++ Y)) (X.length + j) = n4 (entB ⟨wd, ⟨cx, cy, cw, ch⟩, pg, ex, ey⟩ ++ Y) j := fun j => by rw [n4_app (by omega), Nat.add_sub_cancel_left]
  have h0 := hl 0
  rw [Nat.add_zero] at h0
  rw [h0]
  simp only [hl, hl4]
  unfold entB
  simp only [shB_cons, loB_cons, shB_nil, loB_nil, List.append_nil, List.append_assoc]
  have a1 := u16N_lt wd
  have a2 := u32N_lt cx
  have a3 := u32N_lt cy
  have a4 := u16N_lt cw
  have a5 := u16N_lt ch
  have a6 := u16N_lt pg
  have a7 := u16N_lt ex
  have a8 := u16N_lt ey
  simp (disch := (simp only [putB_len]; omega)) only [n2_app, n4_app, putB_len, Nat.reduceSub]
  rw [n2_put a1, n4_put a2, n4_put a3, n2_put a4, n2_put a5, n2_put a6, n2_put a7, n2_put a8, u16_u h1, sg32_u (by omega), sg32_u (by omega), u16_u (by omega), u16_u (by omega), u16_u h6, u16_u h7, u16_u h8]
theorem pr_here {X Y : List UInt8} {p : Pr} (h : (0 ≤ p.code ∧ p.code ≤ 1114111) ∧ 0 ≤ p.glyph ∧ p.glyph ≤ 65535) : prAt (X ++ (prB p ++ Y)) X.length = p := by
  obtain ⟨c, g⟩ := p
  obtain ⟨h1, h2⟩ := h
  simp only at h1 h2
  unfold prAt
  have hl : ∀ j, n2 (X ++ (prB ⟨c, g⟩ ++ Y)) (X.length + j) = n2 (prB ⟨c, g⟩ ++ Y) j := fun j => by rw [n2_app (by omega), Nat.add_sub_cancel_left]
  have h0 : n4 (X ++ (prB ⟨c, g⟩ ++ Y)) X.length = n4 (prB ⟨c, g⟩ ++ Y) 0 := by rw [n4_app (Nat.le_refl _), Nat.sub_self]
  rw [h0]
  simp only [hl]
  unfold prB
  simp only [shB_cons, loB_cons, shB_nil, loB_nil, List.append_nil, List.append_assoc]
  have a1 := u32N_lt c
  have a2 := u16N_lt g
  simp (disch := (simp only [putB_len]; omega)) only [n2_app, n4_app, putB_len, Nat.reduceSub]
  rw [n4_put a1, n2_put a2, sg32_u (by omega), u16_u h2]
theorem rises_in {g : Int} : ∀ {l : List Pr} {last : Int}, risesB g last l = true → ∀ p ∈ l, last < p.code ∧ p.code ≤ 1114111 ∧ 1 ≤ p.glyph ∧ p.glyph < g
  | [], _, _, p, hp => by cases hp
  | q :: l, last, h, p, hp => by
    simp only [risesB, Bool.and_eq_true, decide_eq_true_eq] at h
    obtain ⟨⟨q1, q2, q3, q4⟩, h2⟩ := h
    rcases List.mem_cons.1 hp with rfl | hp
    · exact ⟨q1, q2, q3, q4⟩
    · have := rises_in h2 p hp
      exact ⟨by omega, this.2⟩
theorem split_at {α β : Type} (f : α → List β) {l : List α} {i : Nat} (h : i < l.length) : l.flatMap f = (l.take i).flatMap f ++ (f l[i] ++ (l.drop (i + 1)).flatMap f) := by
  have : l = l.take i ++ l[i] :: l.drop (i + 1) := by rw [← List.drop_eq_getElem_cons h, List.take_append_drop]
  conv => lhs; rw [this]
  rw [List.flatMap_append, List.flatMap_cons]
theorem encP_len (a : Atl) : (encP a).length = 34 + 20 * a.gl.length + 6 * a.pr.length + a.pgs.flatten.length := by
  unfold encP encP0; simp only [List.length_append, hdB_len, ents_len, prs_len, putB_len]; omega
theorem join_len {one : Nat} : ∀ {l : List (List UInt8)}, (∀ s ∈ l, s.length = one) → l.flatten.length = one * l.length
  | [], _ => by simp
  | s :: l, h => by
    rw [List.flatten_cons, List.length_append, h s (by simp), join_len (l := l) fun s hs => h s (by simp [hs]), List.length_cons, Nat.mul_succ]; omega
/-- All bytes, the beginning's one by one. -/
theorem enc_eq (a : Atl) : encP a = magicL ++ (putB (u16N a.em) 2 ++ (putB (u16N a.px) 2 ++ (putB (u16N a.rg) 2 ++ (putB (u16N a.up) 2 ++ (putB (u16N a.down) 2 ++ (putB (u16N a.gap) 2 ++ (putB (u16N a.w) 2 ++ (putB (u16N a.h) 2 ++ (putB (u16N (a.pgs.length : Int)) 2 ++ (putB (u16N (a.gl.length : Int)) 2 ++ (putB (u32N (a.pr.length : Int)) 4 ++
    (a.gl.flatMap entB ++ (a.pr.flatMap prB ++ (a.pgs.flatten ++ putB (crcN (encP0 a)) 4)))))))))))))) := by
  conv => lhs; unfold encP encP0 hdB
  simp only [shB_cons, loB_cons, shB_nil, loB_nil, List.append_nil, List.append_assoc]
  rfl
theorem mag_len : magicL.length = 6 := rfl
theorem dec_enc {a : Atl} (hm : MayA a) : decE (encP a) = 0 ∧ fullA (encP a) = a := by
  obtain ⟨hN, hpl, hel, hpr⟩ := id hm
  obtain ⟨m1, m2, m3, m4, m5, m6, m7, m8, m9, n1, n2', n3, n4', n5, n6, n7⟩ := hN
  have hrl : a.pr.length ≤ 4096 := by
    unfold mayP at hpr
    simp only [Bool.and_eq_true, decide_eq_true_eq] at hpr
    exact hpr.1.2.2
  have hpi : ∀ p ∈ a.pr, _ := rises_in (by unfold mayP at hpr; simp only [Bool.and_eq_true] at hpr; exact hpr.2)
  obtain ⟨w, hw⟩ : ∃ w : Nat, a.w = w := ⟨a.w.toNat, by omega⟩
  obtain ⟨h, hh⟩ : ∃ h : Nat, a.h = h := ⟨a.h.toNat, by omega⟩
  have hone : ∀ s ∈ a.pgs, s.length = 4 * w * h := fun s hs => by
    have := hpl s hs
    rw [hw, hh] at this
    have e : (4 : Int) * (w : Int) * (h : Int) = ((4 * w * h : Nat) : Int) := by push_cast; rfl
    rw [e] at this
    omega
  have hjoin := join_len hone
  have hlen := encP_len a
  have hE := enc_eq a
  have e6 : ((n2 (encP a) 6 : Nat) : Int) = a.em := by
    rw [hE]; simp (disch := (simp only [putB_len, mag_len]; omega)) only [n2_app, n4_app, putB_len, mag_len, Nat.reduceSub]; rw [n2_put (u16N_lt _), u16_u (by omega)]
  have e8 : ((n2 (encP a) 8 : Nat) : Int) = a.px := by
    rw [hE]; simp (disch := (simp only [putB_len, mag_len]; omega)) only [n2_app, n4_app, putB_len, mag_len, Nat.reduceSub]; rw [n2_put (u16N_lt _), u16_u (by omega)]
  have e10 : ((n2 (encP a) 10 : Nat) : Int) = a.rg := by
    rw [hE]; simp (disch := (simp only [putB_len, mag_len]; omega)) only [n2_app, n4_app, putB_len, mag_len, Nat.reduceSub]; rw [n2_put (u16N_lt _), u16_u (by omega)]
  have e12 : sg16 (n2 (encP a) 12) = a.up := by
    rw [hE]; simp (disch := (simp only [putB_len, mag_len]; omega)) only [n2_app, n4_app, putB_len, mag_len, Nat.reduceSub]; rw [n2_put (u16N_lt _), sg16_u m7]
  have e14 : sg16 (n2 (encP a) 14) = a.down := by
    rw [hE]; simp (disch := (simp only [putB_len, mag_len]; omega)) only [n2_app, n4_app, putB_len, mag_len, Nat.reduceSub]; rw [n2_put (u16N_lt _), sg16_u m8]
  have e16 : sg16 (n2 (encP a) 16) = a.gap := by
    rw [hE]; simp (disch := (simp only [putB_len, mag_len]; omega)) only [n2_app, n4_app, putB_len, mag_len, Nat.reduceSub]; rw [n2_put (u16N_lt _), sg16_u m9]
  have e18 : n2 (encP a) 18 = w := by
    rw [hE]; simp (disch := (simp only [putB_len, mag_len]; omega)) only [n2_app, n4_app, putB_len, mag_len, Nat.reduceSub]; rw [n2_put (u16N_lt _), hw, u16N_nat (by omega)]
  have e20 : n2 (encP a) 20 = h := by
    rw [hE]; simp (disch := (simp only [putB_len, mag_len]; omega)) only [n2_app, n4_app, putB_len, mag_len, Nat.reduceSub]; rw [n2_put (u16N_lt _), hh, u16N_nat (by omega)]
  have e22 : n2 (encP a) 22 = a.pgs.length := by
    rw [hE]; simp (disch := (simp only [putB_len, mag_len]; omega)) only [n2_app, n4_app, putB_len, mag_len, Nat.reduceSub]; rw [n2_put (u16N_lt _), u16N_nat (by omega)]
  have e24 : n2 (encP a) 24 = a.gl.length := by
    rw [hE]; simp (disch := (simp only [putB_len, mag_len]; omega)) only [n2_app, n4_app, putB_len, mag_len, Nat.reduceSub]; rw [n2_put (u16N_lt _), u16N_nat (by omega)]
  have e26 : n4 (encP a) 26 = a.pr.length := by
    rw [hE]; simp (disch := (simp only [putB_len, mag_len]; omega)) only [n2_app, n4_app, putB_len, mag_len, Nat.reduceSub]; rw [n4_put (u32N_lt _), u32N_nat (by omega)]
  have hsz : szP (encP a) = (encP a).length := by
    unfold szP sizeP; rw [e18, e20, e22, e24, e26, hlen, hjoin]
  have h6 : (encP a).take 6 = magicL := by rw [hE, List.take_append_of_le_length (by rw [mag_len]; exact Nat.le_refl _)]; rfl
  have h0l : (encP0 a).length = szP (encP a) - 4 := by
    rw [hsz]; unfold encP; rw [List.length_append, putB_len]; omega
  have htake : (encP a).take (szP (encP a) - 4) = encP0 a := by
    rw [← h0l]; unfold encP; rw [List.take_append_of_le_length (Nat.le_refl _), List.take_length]
  have hcrc : n4 (encP a) (szP (encP a) - 4) = crcN (encP0 a) := by
    rw [← h0l]; unfold encP
    rw [n4_app (Nat.le_refl _), Nat.sub_self]
    have := n4_put (y := []) (crcN_lt (encP0 a))
    rwa [List.append_nil] at this
  have hgl : entsP (encP a) a.gl.length = a.gl := by
    refine List.ext_getElem (entsP_len _ _) fun i h1 h2 => ?_
    have : (entsP (encP a) a.gl.length)[i] = entAt (encP a) (30 + 20 * i) := by simp [entsP]
    rw [this]
    have hx : encP a = (hdB a ++ (a.gl.take i).flatMap entB) ++ (entB a.gl[i] ++ ((a.gl.drop (i + 1)).flatMap entB ++ (a.pr.flatMap prB ++ (a.pgs.flatten ++ putB (crcN (encP0 a)) 4)))) := by
      conv => lhs; unfold encP
      conv => lhs; arg 1; unfold encP0
      rw [split_at entB h2]
      simp only [List.append_assoc]
    have hl : (hdB a ++ (a.gl.take i).flatMap entB).length = 30 + 20 * i := by rw [List.length_append, hdB_len, ents_len, List.length_take]; omega
    rw [hx, ← hl]
    exact ent_here (fit_ent n2' n4' (by omega) (hel _ (List.getElem_mem h2)))
  have hprs : prsP (encP a) (30 + 20 * a.gl.length) a.pr.length = a.pr := by
    refine List.ext_getElem (prsP_len _ _ _) fun i h1 h2 => ?_
    have : (prsP (encP a) (30 + 20 * a.gl.length) a.pr.length)[i] = prAt (encP a) (30 + 20 * a.gl.length + 6 * i) := by simp [prsP]
    rw [this]
    have hx : encP a = (hdB a ++ (a.gl.flatMap entB ++ (a.pr.take i).flatMap prB)) ++ (prB a.pr[i] ++ ((a.pr.drop (i + 1)).flatMap prB ++ (a.pgs.flatten ++ putB (crcN (encP0 a)) 4))) := by
      conv => lhs; unfold encP
      conv => lhs; arg 1; unfold encP0
      rw [split_at prB h2]
      simp only [List.append_assoc]
    have hl : (hdB a ++ (a.gl.flatMap entB ++ (a.pr.take i).flatMap prB)).length = 30 + 20 * a.gl.length + 6 * i := by rw [List.length_append, List.length_append, hdB_len, ents_len, prs_len, List.length_take]; omega
    rw [hx, ← hl]
    have := hpi _ (List.getElem_mem h2)
    exact pr_here ⟨⟨by omega, this.2.1⟩, by omega, by omega⟩
  have hpgs : pgsP (encP a) (30 + 20 * a.gl.length + 6 * a.pr.length) (4 * w * h) a.pgs.length = a.pgs := by
    refine List.ext_getElem (pgsP_len _ _ _ _) fun i h1 h2 => ?_
    have : (pgsP (encP a) (30 + 20 * a.gl.length + 6 * a.pr.length) (4 * w * h) a.pgs.length)[i] = ((encP a).drop (30 + 20 * a.gl.length + 6 * a.pr.length + 4 * w * h * i)).take (4 * w * h) := by simp [pgsP]
    rw [this]
    have hs := split_at (fun s : List UInt8 => s) h2
    simp only [List.flatMap_id'] at hs
    have hx : encP a = (hdB a ++ (a.gl.flatMap entB ++ (a.pr.flatMap prB ++ (a.pgs.take i).flatten))) ++ (a.pgs[i] ++ ((a.pgs.drop (i + 1)).flatten ++ putB (crcN (encP0 a)) 4)) := by
      conv => lhs; unfold encP
      conv => lhs; arg 1; unfold encP0
      rw [hs]
      simp only [List.append_assoc]
    have hti : (a.pgs.take i).flatten.length = 4 * w * h * i := by
      rw [join_len fun s hs => hone s (List.mem_of_mem_take hs), List.length_take, Nat.min_eq_left (by omega)]
    have hl : (hdB a ++ (a.gl.flatMap entB ++ (a.pr.flatMap prB ++ (a.pgs.take i).flatten))).length = 30 + 20 * a.gl.length + 6 * a.pr.length + 4 * w * h * i := by
      simp only [List.length_append, hdB_len, ents_len, prs_len, hti]; omega
    have hi := hone _ (List.getElem_mem h2)
    rw [hx, ← hl, List.drop_append, List.drop_length, List.nil_append, Nat.sub_self, List.drop_zero, ← hi, List.take_append_of_le_length (Nat.le_refl _), List.take_length]
  have hfull : fullA (encP a) = a := by
    unfold fullA hdA
    rw [e6, e8, e10, e12, e14, e16, e18, e20, e22, e24, e26, hgl, hprs, hpgs, ← hw, ← hh]
  refine ⟨?_, hfull⟩
  unfold decE
  rw [if_neg (by omega), if_neg (by simp [h6]), if_neg (by unfold Many; rw [e22, e24, e26]; omega), if_neg (by omega), if_neg (by omega), if_neg (by rw [htake, hcrc]; simp), if_neg (by rw [hfull]; simp [hm])]
end Go.Proofs.Ytppkggodpihfiaa

/- The median of three bytes is the reference's median, it does not hang on their order, and the median of a, a, c is a: for any three bytes. -/
import Derived.Test.YtimbippemlmnlaaPFixMediansx1
namespace Go.Proofs.Ytimbippemlmnlaa.Pure
open Go.RowKit Go.Proofs.Ytimbippemlmnlaa.PFixMedians Go.Proofs.YtimbippemlmnlaaW.PrintWords Go.Proofs.YtimbippemlmnlaaW.PrintLast Go.Proofs.YtimbippemlmnlaaW.PrintMore

theorem awake_true : pochoirlaw27_awake.f 3 = some true := by decide +kernel

theorem byte_bounds {a : Int} (h : (Lit.int .u8 a).wf = true) : 0 ≤ a ∧ a ≤ 255 := by
  simp [Lit.wf, IntKind.min, IntKind.max, IntKind.signed, IntKind.bits] at h
  omega

theorem wrap_id {a : Int} (h0 : -9223372036854775808 ≤ a) (h1 : a ≤ 9223372036854775807) : wrap64 a = a := by unfold wrap64; omega

theorem med_spec (a b c : Int) : mx (mn a b) (mn (mx a b) c) = a + b + c - mn (mn a b) c - mx (mx a b) c := by
  unfold mx mn
  by_cases h1 : b < a <;> by_cases h2 : a < b <;> by_cases h3 : c < a <;> by_cases h4 : c < b <;> by_cases h5 : a < c <;> by_cases h6 : b < c <;> first | (exfalso; omega) | (simp [*]; try omega)
theorem med_rot (a b c : Int) : mx (mn a b) (mn (mx a b) c) = mx (mn c a) (mn (mx c a) b) := by
  unfold mx mn
  by_cases h1 : b < a <;> by_cases h2 : a < b <;> by_cases h3 : c < a <;> by_cases h4 : c < b <;> by_cases h5 : a < c <;> by_cases h6 : b < c <;> first | (exfalso; omega) | (simp [*]; try omega)
theorem med_swap (a b c : Int) : mx (mn a b) (mn (mx a b) c) = mx (mn b a) (mn (mx b a) c) := by
  unfold mx mn
  by_cases h1 : b < a <;> by_cases h2 : a < b <;> by_cases h3 : c < a <;> by_cases h4 : c < b <;> by_cases h5 : a < c <;> by_cases h6 : b < c <;> first | (exfalso; omega) | (simp [*]; try omega)
theorem med_two (a c : Int) : mx (mn a a) (mn (mx a a) c) = a := by
  unfold mx mn
  by_cases h3 : c < a <;> by_cases h5 : a < c <;> first | (exfalso; omega) | (simp [*]; done)
theorem mn_range {a b : Int} (ha : 0 ≤ a ∧ a ≤ 255) (hb : 0 ≤ b ∧ b ≤ 255) : 0 ≤ mn a b ∧ mn a b ≤ 255 := by unfold mn; split <;> omega
theorem mx_range {a b : Int} (ha : 0 ≤ a ∧ a ≤ 255) (hb : 0 ≤ b ∧ b ≤ 255) : 0 ≤ mx a b ∧ mx a b ≤ 255 := by unfold mx; split <;> omega

theorem FixMedians : pochoirlaw27_FixMedians.Pure := by
  intro a b c ha hb hc
  have ha := byte_bounds ha
  have hb := byte_bounds hb
  have hc := byte_bounds hc
  refine ⟨3, ?_⟩
  unfold pochoirlaw27_FixMedians.f
  rw [awake_true]
  have h1 := mn_range (mn_range ha hb) hc
  have h2 := mx_range (mx_range ha hb) hc
  have h3 := mx_range (mn_range ha hb) (mn_range (mx_range ha hb) hc)
  have w1 : wrap64 a = a := wrap_id (by omega) (by omega)
  have w2 : wrap64 b = b := wrap_id (by omega) (by omega)
  have w3 : wrap64 c = c := wrap_id (by omega) (by omega)
  have w4 : wrap64 (a + b) = a + b := wrap_id (by omega) (by omega)
  have w5 : wrap64 (a + b + c) = a + b + c := wrap_id (by omega) (by omega)
  have w6 : wrap64 (a + b + c - mn (mn a b) c) = a + b + c - mn (mn a b) c := wrap_id (by omega) (by omega)
  have w7 : wrap64 (a + b + c - mn (mn a b) c - mx (mx a b) c) = a + b + c - mn (mn a b) c - mx (mx a b) c := wrap_id (by omega) (by omega)
  have w8 : wrap64 (mx (mn a b) (mn (mx a b) c)) = mx (mn a b) (mn (mx a b) c) := wrap_id (by omega) (by omega)
  simp only [Option.bind_some, if_true, fix_Median.f, pochoirref27_Median.f, w1, w2, w3, w4, w5, w6, w7, w8]
  rw [if_pos (med_spec a b c), if_pos (med_rot a b c), if_pos (med_swap a b c), med_two]
  simp

end Go.Proofs.Ytimbippemlmnlaa.Pure

/- A law's row, from what the machine says of the law's function. -/
import Derived.Test.YthfpndelfbeknaaDen32
import Derived.WalkKit
import Derived.ProofKit
import Derived.OpenShut
import Derived.ChangeOld
import Derived.SizedLaws
import Derived.Handed
set_option linter.unusedVariables false
set_option linter.unusedSimpArgs false
namespace Go.Den
open Go.ChangeShapes Go.WideShapes Go.ChangeAt Go.RowKit
/-- An argument of such a type. -/
def ArgIs : Ty → AV → Prop
  | .agg l, a => ∃ c, a = .agg c ∧ HasAll l c
  | ty, a => Has ty [a]
def ArgsAre : List Ty → List AV → Prop
  | [], as => as = []
  | t :: l, as => ∃ a r, as = a :: r ∧ ArgIs t a ∧ ArgsAre l r
section
variable {H : Type} {enc : TypeId × Value → H} {P : Program} {w : World} {base : Nat} {spare : Nat → Bool} {held : Bool} {ρ : Plan}
theorem stand1 {a : AV} {v : Value} (h : Stand w ρ [a] [v]) : VR w ρ 0 a v := by
  obtain ⟨h, _⟩ := h
  simp only [VRs] at h
  obtain ⟨x, r, e, h1, rfl⟩ := h
  injection e with e1 e2
  subst e1
  exact h1
theorem dec_arg {r : Reach} {ty : Ty} {n : Nat} {t : TypeId} {v : Value} {d : DataW H} {ps : List MemPlace} (hval : Value.okWide P w r base t v) (h : DataW.Trod enc P w 0 spare held t v d ps) (hf : fits P n t ty = true) :
    ∃ a, ArgIs ty a ∧ VR w ρ 0 a v := by
  obtain ⟨fuel, h⟩ := h
  obtain ⟨c, hc, hs⟩ := dec (ρ := ρ) ty n fuel t _ _ h hf
  cases n with
  | zero => simp [fits] at hf
  | succ n =>
    simp only [fits] at hf
    split at hf <;> (try (cases hf; done)) <;> rename_i e1
    case h_5 fs l =>
      simp only [Value.okWide, e1] at hval
      obtain ⟨cs, rfl, _, _⟩ := hval
      refine ⟨.agg c, ⟨c, rfl, by simpa only [Has] using hc⟩, ?_⟩
      simp only [VR]
      exact ⟨cs.toList, rfl, hs.1⟩
    case h_6 m e l =>
      simp only [Value.okWide, e1] at hval
      obtain ⟨cs, rfl, _, _⟩ := hval
      refine ⟨.agg c, ⟨c, rfl, by simpa only [Has] using hc⟩, ?_⟩
      simp only [VR]
      exact ⟨cs.toList, rfl, hs.1⟩
    all_goals
      simp only [Value.okWide, e1, Cell.okWide] at hval
      have hv : v.cells.toList = [v] := by cases v <;> first | rfl | (simp [Cell.ok, e1] at hval)
      rw [hv] at hs
      have hl := hc.size
      simp only [Ty.size] at hl
      obtain ⟨a, rfl⟩ : ∃ a, c = [a] := by
        cases c with
        | nil => simp at hl
        | cons a c => cases c with
          | nil => exact ⟨a, rfl⟩
          | cons b c => simp at hl
      exact ⟨a, hc, stand1 hs⟩
theorem dec_args {r : Reach} {n : Nat} : ∀ {tys : List Ty} {ts : List TypeId} {vs : List Value} {ds : List (DataW H)} {ps : List MemPlace},
    (∀ (j : Nat) t v, ts[j]? = some t → vs[j]? = some v → Value.okWide P w r base t v) → DataW.TrodAll enc P w 0 spare held ts vs ds ps → (ts.length = tys.length) → (∀ (j : Nat) t ty, ts[j]? = some t → tys[j]? = some ty → fits P n t ty = true) → ∃ as, ArgsAre tys as ∧ VRs w ρ 0 as vs
  | [], ts, vs, ds, ps, hval, h, hl, hf => by
    have : ts = [] := List.length_eq_zero_iff.1 hl
    subst this
    obtain ⟨rfl, rfl, rfl⟩ := trodAll_nil h
    exact ⟨[], rfl, by simp only [VRs]⟩
  | ty :: tys, [], vs, ds, ps, hval, h, hl, hf => by simp at hl
  | ty :: tys, t :: ts, vs, ds, ps, hval, h, hl, hf => by
    obtain ⟨v, vs', d, ds', p, q, rfl, rfl, rfl, h1, h2⟩ := trodAll_cons h
    obtain ⟨a, ha, hr⟩ := dec_arg (ρ := ρ) (hval 0 t v rfl rfl) h1 (hf 0 t ty rfl rfl)
    obtain ⟨as, has, hrs⟩ := dec_args (tys := tys) (fun j t v h1 h2 => hval (j + 1) t v (by simpa using h1) (by simpa using h2)) h2 (by simpa using hl) (fun j t ty h1 h2 => hf (j + 1) t ty (by simpa using h1) (by simpa using h2))
    exact ⟨a :: as, ⟨a, as, rfl, ha, has⟩, by simp only [VRs]; exact ⟨v, vs', rfl, hr, hrs⟩⟩
theorem trodAll_below (hl : laidOutB P = true) {W W' : World} (hb : Below W.heap.size W W') : ∀ {ts : List TypeId} {vs : List Value} {ds : List (DataW H)} {ps : List MemPlace},
    ts.all (fun t => P.readableRec t && decide (t < P.types.size)) = true → DataW.TrodAll enc P W 0 (fun _ => true) true ts vs ds ps → (∀ x ∈ ps, x.block < W.heap.size) → DataW.TrodAll enc P W' 0 (fun b => decide (b < W.heap.size)) true ts vs ds ps
  | [], vs, ds, ps, hr, h, hlt => by
    obtain ⟨rfl, rfl, rfl⟩ := trodAll_nil h
    exact trodAll_mk0
  | t :: ts, vs, ds, ps, hr, h, hlt => by
    simp only [List.all_cons, Bool.and_eq_true, decide_eq_true_eq] at hr
    obtain ⟨v, vs', d, ds', p, q, rfl, rfl, rfl, h1, h2⟩ := trodAll_cons h
    exact trodAll_cons_mk (Below.trod hl hr.1.1 hr.1.2 h1 hb fun x hx => hlt x (List.mem_append_left _ hx)) (trodAll_below hl hb hr.2 h2 fun x hx => hlt x (List.mem_append_right _ hx))
end
theorem rel_start (W : World) (ρ : Plan) : Rel W ρ [] W := ⟨Below.refl _ _, fun i h => by obtain ⟨o, h, _⟩ := h; simp at h, fun i o h => by simp at h, fun i j h => by obtain ⟨o, h, _⟩ := h; simp at h⟩
theorem law_of {C : Checked} {e : Env} {os : Os} {f : FuncId} {fn : Func} {sf : SFn} {s : ChangeSpec} {conds : List PathCond} {tb : TypeId} {H : Type} {enc : TypeId × Value → H} (tys : List Ty)
    (own : ownKnob C.prog.godebug = none) (started : os.Started) (noInit : C.prog.inits.idxOf? f = none) (hfn : C.prog.funcs[f]? = some fn)
    (witness : ∃ (w : World) (tape : Tape) (i : Input), w.os = os ∧ (w.forCall tape i).Shaped C.prog ∧ i.vars = [] ∧ Input.okWide C.prog (w.forCall tape i) .any w.heap.size f i ∧
      s.pre6 enc C.prog fn conds false (w.forCall tape i).memory i.args ∧ ({} : Assume).holds C.prog (lone (Frame.enter C.prog f i.args .normal) [] (w.forCall tape i)))
    (hvars : s.vars = []) (hspec : ∀ ds : List (DataW H), ds.length = tys.length → s.fn H ds = { results := [.lit (.bool true)], args := ds })
    (hfits : fn.params.toList.length = tys.length ∧ ∀ (j : Nat) t ty, fn.params.toList[j]? = some t → tys[j]? = some ty → fits C.prog 20 t ty = true)
    (hread : fn.params.toList.all (fun t => C.prog.readableRec t && decide (t < C.prog.types.size)) = true) (hlaid : laidOutB C.prog = true)
    (hres : fn.resultTypes = #[tb]) (hbool : C.prog.underlying tb = some .bool)
    (he : EnvOk C.prog e) (hI : e.isI f = false) (hE : e.E f = some sf) (hcl : ClOk C.prog (call e))
    (hm : ∀ as, ArgsAre tys as → ∃ H', call e f as [] = some (.bool true, H')) :
    ReturnsInHanded {} C os f .any (s.pre6 enc C.prog fn conds false) (s.post enc C.prog fn false true false false) := by
  refine returnsInHanded_of_change_sized own started noInit hfn witness ?_
  intro W base args ds gs before hval hW hcnd hsz _
  have hW' := hW
  obtain ⟨p, q, hA, hV, rfl, hfz, hnd⟩ := hW
  rw [hvars] at hV
  obtain ⟨rfl, rfl⟩ := trodVars_none hV
  obtain ⟨as, has, hvs⟩ := dec_args (ρ := fun _ => ⟨0, 0, 0⟩) (n := 20) (fun j t v h1 h2 => hval j t v (by simpa using h1) (by simpa using h2)) hA hfits.1 hfits.2
  obtain ⟨H', hc⟩ := hm as has
  have hds : ds.length = tys.length := by
    rw [← hfits.1]
    have gen : ∀ {ts : List TypeId} {vs : List Value} {ds : List (DataW H)} {ps : List MemPlace}, DataW.TrodAll enc C.prog W 0 (fun _ => true) true ts vs ds ps → ds.length = ts.length := by
      intro ts
      induction ts with
      | nil => intro vs ds ps h; obtain ⟨rfl, rfl, rfl⟩ := trodAll_nil h; rfl
      | cons t ts ih => intro vs ds ps h; obtain ⟨v, vs', d, ds', p, q, rfl, rfl, rfl, h1, h2⟩ := trodAll_cons h; simp [ih h2]
    exact gen hA
  have hop := hcl f as [] (.bool true) H' hc W (fun _ => ⟨0, 0, 0⟩) W args.toList (rel_start W _) hvs
  rw [Array.toArray_toList] at hop
  have hcalls : Calls C.prog f args W fun | .returned v, w' => (∃ ρ', Stp W (fun _ => ⟨0, 0, 0⟩) [] W ρ' H' w' ∧ VR W ρ' H'.length (.bool true) v) | _, _ => False := by
    obtain ⟨fn', hf', hfs⟩ := he.fns f sf hI hE
    simp only [slimF, Option.bind_eq_some_iff] at hfs
    obtain ⟨c, hcb, b, hb, rs, hrs, hfs⟩ := hfs
    split at hfs <;> simp only [Option.some.injEq, reduceCtorEq] at hfs
    rename_i hname
    have hcf : (callFunc f args).run C.prog W = .ok (.enter f args) W := by
      simp only [callFunc, Sem.run_bind, run_program, Result.andThen_ok, hf', hname, hcb]
      simp
    rcases hop with ⟨x, w', h1, h2⟩ | ⟨h1, h2⟩
    · rw [hcf] at h1
      injection h1 with h1
      cases h1
    · exact h2
  refine hcalls.mono fun ex W' hx => ?_
  cases ex with
  | returned v =>
    obtain ⟨ρ', hstp, hv⟩ := hx
    simp only [VR] at hv
    subst hv
    have bel := hstp.rel.below
    have hlt := DataW.TrodAll.lt hA
    refine ⟨_, rfl, ds, [], _, [], p, [], hW', ?_, ?_, ?_, bel.frame _, fun h => by cases h⟩
    · rw [List.append_nil, hspec ds hds, hres]
      exact trodAll_mk1 (shut_bool hbool _)
    · rw [List.append_nil, hspec ds hds]
      exact trodAll_below hlaid bel hread hA hlt
    · rw [List.append_nil, hspec ds hds, hvars]
      exact rfl
  | _ => exact hx.elim
def fitsArgs (P : Program) : List TypeId → List Ty → Bool
  | [], [] => true
  | t :: ts, ty :: tys => fits P 20 t ty && fitsArgs P ts tys
  | _, _ => false
theorem fitsArgs_ok {P : Program} : ∀ {ts : List TypeId} {tys : List Ty}, fitsArgs P ts tys = true → ts.length = tys.length ∧ ∀ (j : Nat) t ty, ts[j]? = some t → tys[j]? = some ty → fits P 20 t ty = true
  | [], [], h => ⟨rfl, by simp⟩
  | [], ty :: tys, h => by simp [fitsArgs] at h
  | t :: ts, [], h => by simp [fitsArgs] at h
  | t :: ts, ty :: tys, h => by
    simp only [fitsArgs, Bool.and_eq_true] at h
    obtain ⟨h1, h2⟩ := fitsArgs_ok h.2
    refine ⟨by simp [h1], fun j t' ty' h3 h4 => ?_⟩
    cases j with
    | zero => simp at h3 h4; subst h3 h4; exact h.1
    | succ j => exact h2 j t' ty' (by simpa using h3) (by simpa using h4)
theorem list_of {α : Type} {p : List AV → Prop} {g : α → List AV} {ok : α → Prop} (hd : ∀ x, p x → ∃ a, x = g a ∧ ok a) : ∀ {ls : List (List AV)}, (∀ x ∈ ls, p x) → ∃ l : List α, ls = l.map g ∧ ∀ a ∈ l, ok a
  | [], _ => ⟨[], rfl, by simp⟩
  | x :: ls, h => by
    obtain ⟨a, rfl, ha⟩ := hd x (h x (List.mem_cons_self ..))
    obtain ⟨l, rfl, hl⟩ := list_of hd (ls := ls) fun y hy => h y (List.mem_cons_of_mem _ hy)
    exact ⟨a :: l, rfl, by intro b hb; rcases List.mem_cons.1 hb with rfl | hb; exact ha; exact hl b hb⟩
/-- A slice that comes in, by what its elements are. -/
theorem slice_in {α : Type} {e : Ty} {g : α → List AV} {ok : α → Prop} {v : AV} {H : Heap} (h : Has (.slice e) [v]) (hp : 0 < e.size) (hd : ∀ x, Has e x → ∃ a, x = g a ∧ ok a) (hs : ∀ a, (g a).length = e.size) :
    ∃ l : List α, SlOf H e.size g v l ∧ (∀ a ∈ l, ok a) ∧ l.length ≤ maxLen := by
  simp only [Has] at h
  rcases h with h | ⟨ls, h, hm, hx⟩
  · injection h with h; subst h
    exact ⟨[], SlOf.nils hp, by simp, by simp⟩
  · injection h with h; subst h
    obtain ⟨l, rfl, hl⟩ := list_of hd hx
    refine ⟨l, ⟨by simp [alen], fun a _ => hs a, hp, .inr (.inl ⟨l.length, by simp [List.flatMap_def]⟩)⟩, hl, by simpa using hm⟩
theorem has_int {k : IntKind} {c : List AV} (h : Has (.int k) c) : ∃ n, c = [.int k n] ∧ (Lit.int k n).wf = true := by simpa only [Has] using h
theorem has_bool {c : List AV} (h : Has .bool c) : ∃ n, c = [.bool n] := by simpa only [Has] using h
theorem has_str {c : List AV} (h : Has .str c) : ∃ s : ByteArray, c = [.str s] ∧ s.size ≤ maxLen := by simpa only [Has] using h
theorem has_nil {c : List AV} (h : HasAll [] c) : c = [] := by simpa only [HasAll] using h
theorem has_cons {t : Ty} {l : List Ty} {c : List AV} (h : HasAll (t :: l) c) : ∃ a b, c = a ++ b ∧ Has t a ∧ HasAll l b := by simpa only [HasAll] using h
theorem wf_u8 {n : Int} (h : (Lit.int .u8 n).wf = true) : 0 ≤ n ∧ n < 256 := by
  simp [Lit.wf, IntKind.min, IntKind.max, IntKind.signed, IntKind.bits] at h; omega
theorem wf_u16 {n : Int} (h : (Lit.int .u16 n).wf = true) : 0 ≤ n ∧ n < 65536 := by
  simp [Lit.wf, IntKind.min, IntKind.max, IntKind.signed, IntKind.bits] at h; omega
theorem wf_u32 {n : Int} (h : (Lit.int .u32 n).wf = true) : 0 ≤ n ∧ n < 4294967296 := by
  simp [Lit.wf, IntKind.min, IntKind.max, IntKind.signed, IntKind.bits] at h; omega
theorem wf_i16 {n : Int} (h : (Lit.int .i16 n).wf = true) : -32768 ≤ n ∧ n < 32768 := by
  simp [Lit.wf, IntKind.min, IntKind.max, IntKind.signed, IntKind.bits] at h; omega
theorem wf_i64 {n : Int} (h : (Lit.int .i64 n).wf = true) : -9223372036854775808 ≤ n ∧ n < 9223372036854775808 := by
  simp [Lit.wf, IntKind.min, IntKind.max, IntKind.signed, IntKind.bits] at h; omega
end Go.Den

/- The abstract machine D, part V: a law's row. -/
import Derived.Test.YtbcjiicaekfjlaaDU
import Derived.WalkKit
import Derived.ProofKit
import Derived.OpenShut
import Derived.ChangeOld
import Derived.Carry
import Derived.SizedLaws
namespace Go.D
open Go.ChangeShapes Go.WideShapes Go.ChangeAt Go.RowKit
set_option linter.unusedSimpArgs false
set_option linter.unusedVariables false

variable {P : Program} {w : World} {H : Type} {enc : TypeId × Value → H}

inductive Goods : List Gd → List DVal → Prop where
  | nil : Goods [] []
  | cons {g : Gd} {gs : List Gd} {ds : List DVal} (x : g.ty.den) (h : good g x) (t : Goods gs ds) : Goods (g :: gs) (⟨g.ty, x⟩ :: ds)

def laidAll (P : Program) : List TypeId → List Gd → Bool
  | [], [] => true
  | t :: ts, g :: gs => laidAs P 20 t g && laidAll P ts gs
  | _, _ => false

theorem args_open {b0 : Nat} : ∀ (ts : List TypeId) (gs : List Gd) (vs : List Value) (ds : List (DataW H)) (ps : List MemPlace), laidAll P ts gs = true → (∀ (j : Nat) t v, ts[j]? = some t → vs[j]? = some v → Value.okWide P w .any b0 t v) →
    DataW.TrodAll enc P w 0 (fun _ => true) true ts vs ds ps → (DataW.weightsEach P ts ds).all (· ≤ reachBytes) = true → ∃ dvs : List DVal, RelDs (Old w) w dvs vs ∧ Goods gs dvs := by
  intro ts
  induction ts with
  | nil =>
    intro gs vs ds ps hl _ hT _
    cases gs with
    | nil =>
      cases vs with
      | nil => exact ⟨[], .nil, .nil⟩
      | cons v vs => cases ds <;> exact hT.elim
    | cons g gs => simp [laidAll] at hl
  | cons t ts ih =>
    intro gs vs ds ps hl hval hT hw
    cases gs with
    | nil => simp [laidAll] at hl
    | cons g gs =>
      simp only [laidAll, Bool.and_eq_true] at hl
      cases vs with
      | nil => exact hT.elim
      | cons v vs =>
        cases ds with
        | nil => exact hT.elim
        | cons d ds =>
          obtain ⟨p, q, h1, h2, _⟩ := hT
          simp only [DataW.weightsEach, List.all_append, Bool.and_eq_true] at hw
          obtain ⟨x, hx, hg⟩ := arg_open hl.1 (hval 0 t v rfl rfl) h1 hw.1
          obtain ⟨dvs, k1, k2⟩ := ih gs vs ds q hl.2 (fun j t v ht hv => hval (j + 1) t v (by simpa using ht) (by simpa using hv)) h2 hw.2
          exact ⟨⟨g.ty, x⟩ :: dvs, .cons hx k1, .cons x hg k2⟩

/-- behind the call the arguments read as ahead of it -/
theorem args_after {W W' : World} (hl : laidOutB P = true) (hb : Below W.heap.size W W') : ∀ (ts : List TypeId) (vs : List Value) (ds : List (DataW H)) (ps : List MemPlace), ts.all (fun t => P.readableRec t && decide (t < P.types.size)) = true → DataW.TrodAll enc P W 0 (fun _ => true) true ts vs ds ps →
    DataW.TrodAll enc P W' 0 (fun b => decide (b < W.heap.size)) true ts vs ds ps := by
  intro ts
  induction ts with
  | nil => intro vs ds ps _ h; cases vs <;> cases ds <;> exact h
  | cons t ts ih =>
    intro vs ds ps hr h
    simp only [List.all_cons, Bool.and_eq_true, decide_eq_true_eq] at hr
    cases vs with
    | nil => exact h.elim
    | cons v vs =>
      cases ds with
      | nil => exact h.elim
      | cons d ds =>
        obtain ⟨p, q, h1, h2, e⟩ := h
        refine ⟨p, q, Below.trod hl hr.1.1 hr.1.2 h1 hb (fun x hx => ?_), ih vs ds q (by simpa using hr.2) h2, e⟩
        obtain ⟨fuel, hf⟩ := h1
        exact DataW.trod_lt fuel t _ _ hf x hx
theorem trodAll_length {W : World} {base : Nat} {spare : Nat → Bool} {held : Bool} : ∀ (ts : List TypeId) (vs : List Value) (ds : List (DataW H)) (ps : List MemPlace), DataW.TrodAll enc P W base spare held ts vs ds ps → ds.length = ts.length
  | [], [], [], _, _ => rfl
  | [], [], _ :: _, _, h => h.elim
  | [], _ :: _, [], _, h => h.elim
  | [], _ :: _, _ :: _, _, h => h.elim
  | _ :: _, [], [], _, h => h.elim
  | _ :: _, [], _ :: _, _, h => h.elim
  | _ :: _, _ :: _, [], _, h => h.elim
  | t :: ts, v :: vs, d :: ds, ps, ⟨p, q, _, h2, _⟩ => by simp [trodAll_length ts vs ds q h2]

/-- A LAW THAT TELLS true OF WHATEVER IT IS HANDED. -/
theorem law_row {C : Checked} {os : Os} {f : FuncId} {fn : Func} {s : ChangeSpec} {conds : List PathCond} {ctr : Ctr} {ts : List TypeId} {gs : List Gd} {tb : TypeId} (own : ownKnob C.prog.godebug = none) (started : os.Started) (noInit : C.prog.inits.idxOf? f = none) (hfn : C.prog.funcs[f]? = some fn)
    (witness : ∃ (w : World) (tape : Tape) (i : Input), w.os = os ∧ (w.forCall tape i).Shaped C.prog ∧ i.vars = [] ∧ Input.okWide C.prog (w.forCall tape i) .any w.heap.size f i ∧
      s.pre6 enc C.prog fn conds false (w.forCall tape i).memory i.args ∧ ({} : Assume).holds C.prog (lone (Frame.enter C.prog f i.args .normal) [] (w.forCall tape i)))
    (hts : fn.params.toList = ts) (hres : fn.resultTypes.toList = [tb]) (hrs : fn.resultTypes.size = 1) (htb : C.prog.underlying tb = some .bool) (hvars : s.vars = []) (hspec : ∀ ds : List (DataW H), ds.length = ts.length → s.fn H ds = ⟨[.lit (.bool true)], ds, []⟩)
    (hlaid : laidOutB C.prog = true) (hg : laidAll C.prog ts gs = true) (hr : ts.all (fun t => C.prog.readableRec t && decide (t < C.prog.types.size)) = true)
    (hctr : Contract C.prog f ctr) (htrue : ∀ ds, Goods gs ds → (ctr.run ds).val = some [⟨.bool, true⟩]) :
    ReturnsInHanded {} C os f .any (s.pre6 enc C.prog fn conds false) (s.post enc C.prog fn false true false false) := by
  refine returnsInHanded_of_change_sized own started noInit hfn witness ?_
  intro W base args ds gs' before hval hW hcnd hsz _
  have hW' := hW
  obtain ⟨p, q, hA, hV, rfl, hfz, hnd⟩ := hW
  rw [hvars] at hV
  obtain ⟨rfl, rfl⟩ := trodVars_none hV
  rw [List.append_nil] at hsz
  have hvt : s.plain.varTypes C.prog = [] := by
    simp [DataSpec.varTypes, ChangeSpec.plain, hvars]
  rw [hvt, List.append_nil] at hsz
  have hval' : ∀ (j : Nat) t v, ts[j]? = some t → args.toList[j]? = some v → Value.okWide C.prog W .any base t v := fun j t v h1 h2 => hval j t v (by rw [← hts, Array.getElem?_toList] at h1; exact h1) (by rw [Array.getElem?_toList] at h2; exact h2)
  rw [hts] at hA hsz
  obtain ⟨dvs, k1, k2⟩ := args_open ts gs _ _ _ hg hval' hA hsz
  have hlen := trodAll_length _ _ _ _ hA
  have hcall := hctr dvs _ (htrue dvs k2) (Old W) W args.toList (fun b j h => h) k1
  rw [Array.toArray_toList] at hcall
  refine hcall.mono fun e W' ⟨F', rvs, he, hn, _, _, hr'⟩ => ?_
  have hb : Below W.heap.size W W' := ⟨hn.os, hn.tape, hn.output, hn.size, fun k hk => hn.old k hk⟩
  cases hr' with
  | cons h1 h2 =>
    cases h2
    have hv := relD_bool.1 h1
    subst hv
    refine ⟨.bool true, he, ds, [], _, [], p, [], hW', ?_, ?_, ?_, hb.frame _, fun h => by cases h⟩
    · rw [List.append_nil, hspec ds hlen, hres, hrs]
      exact trodAll_mk1 (shut_bool htb _)
    · rw [List.append_nil, hspec ds hlen, hts]
      exact args_after hlaid hb ts _ _ _ hr hA
    · rw [List.append_nil, hspec ds hlen, hvars]
      rfl
end Go.D

/- The abstract machine D, part V: a law's row. -/
import Derived.Test.YtmdnddoiopgboaaDoorDU
import Derived.WalkKit
import Derived.ProofKit
import Derived.OpenShut
import Derived.ChangeOld
import Derived.Carry
import Derived.SizedLaws
import Derived.Deep.DeepHandedRow
import Derived.Lib.LaidTab
import Derived.Stop.LaidErr
namespace Go.D
open Go.ChangeShapes Go.WideShapes Go.ChangeAt Go.RowKit
set_option linter.unusedSimpArgs false
set_option linter.unusedVariables false

variable {P : Program} {w : World} {H : Type} {enc : TypeId × Value → H}

inductive Goods : List Gd → List DVal → Prop where
  | nil : Goods [] []
  | cons {g : Gd} {gs : List Gd} {ds : List DVal} (x : g.ty.den) (h : good g x) (t : Goods gs ds) : Goods (g :: gs) (⟨g.ty, x⟩ :: ds)

def laidAll (P : Program) : List TypeId → List Gd → Bool
  | [], [] => true
  | t :: ts, g :: gs => laidAs P 20 t g && laidAll P ts gs
  | _, _ => false

theorem args_open {b0 : Nat} : ∀ (ts : List TypeId) (gs : List Gd) (vs : List Value) (ds : List (DataW H)) (ps : List MemPlace), laidAll P ts gs = true → (∀ (j : Nat) t v, ts[j]? = some t → vs[j]? = some v → Value.okWide P w .any b0 t v) →
    DataW.TrodAll enc P w 0 (fun _ => true) true ts vs ds ps → (DataW.weightsEach P ts ds).all (· ≤ reachBytes) = true → ∃ dvs : List DVal, RelDs (Old w) w dvs vs ∧ Goods gs dvs := by
  intro ts
  induction ts with
  | nil =>
    intro gs vs ds ps hl _ hT _
    cases gs with
    | nil =>
      cases vs with
      | nil => exact ⟨[], .nil, .nil⟩
      | cons v vs => cases ds <;> exact hT.elim
    | cons g gs => simp [laidAll] at hl
  | cons t ts ih =>
    intro gs vs ds ps hl hval hT hw
    cases gs with
    | nil => simp [laidAll] at hl
    | cons g gs =>
      simp only [laidAll, Bool.and_eq_true] at hl
      cases vs with
      | nil => exact hT.elim
      | cons v vs =>
        cases ds with
        | nil => exact hT.elim
        | cons d ds =>
          obtain ⟨p, q, h1, h2, _⟩ := hT
          simp only [DataW.weightsEach, List.all_append, Bool.and_eq_true] at hw
          obtain ⟨x, hx, hg⟩ := arg_open hl.1 (hval 0 t v rfl rfl) h1 hw.1
          obtain ⟨dvs, k1, k2⟩ := ih gs vs ds q hl.2 (fun j t v ht hv => hval (j + 1) t v (by simpa using ht) (by simpa using hv)) h2 hw.2
          exact ⟨⟨g.ty, x⟩ :: dvs, .cons hx k1, .cons x hg k2⟩

/-- behind the call the arguments read as ahead of it -/
theorem args_after {W W' : World} (hl : laidOutB P = true) (hb : Go.RowKit.Below W.heap.size W W') : ∀ (ts : List TypeId) (vs : List Value) (ds : List (DataW H)) (ps : List MemPlace), ts.all (fun t => P.readableRec t && decide (t < P.types.size)) = true → DataW.TrodAll enc P W 0 (fun _ => true) true ts vs ds ps →
    DataW.TrodAll enc P W' 0 (fun b => decide (b < W.heap.size)) true ts vs ds ps := by
  intro ts
  induction ts with
  | nil => intro vs ds ps _ h; cases vs <;> cases ds <;> exact h
  | cons t ts ih =>
    intro vs ds ps hr h
    simp only [List.all_cons, Bool.and_eq_true, decide_eq_true_eq] at hr
    cases vs with
    | nil => exact h.elim
    | cons v vs =>
      cases ds with
      | nil => exact h.elim
      | cons d ds =>
        obtain ⟨p, q, h1, h2, e⟩ := h
        refine ⟨p, q, Go.RowKit.Below.trod hl hr.1.1 hr.1.2 h1 hb (fun x hx => ?_), ih vs ds q (by simpa using hr.2) h2, e⟩
        obtain ⟨fuel, hf⟩ := h1
        exact DataW.trod_lt fuel t _ _ hf x hx
theorem trodAll_length {W : World} {base : Nat} {spare : Nat → Bool} {held : Bool} : ∀ (ts : List TypeId) (vs : List Value) (ds : List (DataW H)) (ps : List MemPlace), DataW.TrodAll enc P W base spare held ts vs ds ps → ds.length = ts.length
  | [], [], [], _, _ => rfl
  | [], [], _ :: _, _, h => h.elim
  | [], _ :: _, [], _, h => h.elim
  | [], _ :: _, _ :: _, _, h => h.elim
  | _ :: _, [], [], _, h => h.elim
  | _ :: _, [], _ :: _, _, h => h.elim
  | _ :: _, _ :: _, [], _, h => h.elim
  | t :: ts, v :: vs, d :: ds, ps, ⟨p, q, _, h2, _⟩ => by simp [trodAll_length ts vs ds q h2]

/-- what a call of a law does -/
theorem law_calls {C : Checked} {f : FuncId} {fn : Func} {s : ChangeSpec} {ctr : Ctr} {ts : List TypeId} {gs : List Gd} {tb : TypeId}
    (hts : fn.params.toList = ts) (hres : fn.resultTypes.toList = [tb]) (hrs : fn.resultTypes.size = 1) (htb : C.prog.underlying tb = some .bool) (hvars : s.vars = []) (hspec : ∀ ds : List (DataW H), ds.length = ts.length → s.fn H ds = ⟨[.lit (.bool true)], ds, []⟩)
    (hlaid : laidOutB C.prog = true) (hg : laidAll C.prog ts gs = true) (hr : ts.all (fun t => C.prog.readableRec t && decide (t < C.prog.types.size)) = true)
    (hctr : Contract C.prog f ctr) (htrue : ∀ ds, Goods gs ds → (ctr.run ds).val = some [⟨.bool, true⟩])
    {W : World} {base : Nat} {args : Array Value} {ds gs' : List (DataW H)} {before : List MemPlace} (hgl : GlobOk (Old W) W)
    (hval : ∀ (j : Nat) t v, fn.params[j]? = some t → args[j]? = some v → Value.okWide C.prog W .any base t v) (hW : DataW.Whole enc C.prog fn.params.toList s.vars false W args.toList ds gs' before)
    (hsz : (DataW.weightsEach C.prog (fn.params.toList ++ s.plain.varTypes C.prog) (ds ++ gs')).all (· ≤ reachBytes) = true) :
    Calls C.prog f args W fun e W' => ∃ v, e = .returned v ∧ s.post enc C.prog fn false true false false W args v W' := by
  have hW' := hW
  obtain ⟨p, q, hA, hV, rfl, hfz, hnd⟩ := hW
  rw [hvars] at hV
  obtain ⟨rfl, rfl⟩ := trodVars_none hV
  rw [List.append_nil] at hsz
  have hvt : s.plain.varTypes C.prog = [] := by
    simp [DataSpec.varTypes, ChangeSpec.plain, hvars]
  rw [hvt, List.append_nil] at hsz
  have hval' : ∀ (j : Nat) t v, ts[j]? = some t → args.toList[j]? = some v → Value.okWide C.prog W .any base t v := fun j t v h1 h2 => hval j t v (by rw [← hts, Array.getElem?_toList] at h1; exact h1) (by rw [Array.getElem?_toList] at h2; exact h2)
  rw [hts] at hA hsz
  obtain ⟨dvs, k1, k2⟩ := args_open ts gs _ _ _ hg hval' hA hsz
  have hlen := trodAll_length _ _ _ _ hA
  have hcall := hctr dvs _ (htrue dvs k2) (Old W) W args.toList [] (fun b j h => h) hgl k1.args .nil (by simp)
  rw [Array.toArray_toList] at hcall
  refine hcall.mono fun e W' ⟨F', rvs, bs', he, hn, _, _, hr', _⟩ => ?_
  have hn := hn.new
  have hr' : RelDs F' W' [⟨.bool, true⟩] rvs := by
    rcases k1.res hr' with ⟨_, h⟩ | ⟨u, x, v, h, _⟩ | ⟨u, x, v, _, h, _⟩
    · exact h
    · cases h
    · cases h
  have hb : Go.RowKit.Below W.heap.size W W' := ⟨hn.os, hn.tape, hn.output, hn.size, fun k hk => hn.old k hk⟩
  cases hr' with
  | cons h1 h2 =>
    cases h2
    have hv := relD_bool.1 h1
    subst hv
    refine ⟨.bool true, he, ds, [], _, [], p, [], hW', ?_, ?_, ?_, hb.frame _, fun h => by cases h⟩
    · rw [List.append_nil, hspec ds hlen, hres, hrs]
      exact trodAll_mk1 (shut_bool htb _)
    · rw [List.append_nil, hspec ds hlen, hts]
      exact args_after hlaid hb ts _ _ _ hr hA
    · rw [List.append_nil, hspec ds hlen, hvars]
      rfl

/-- A LAW THAT TELLS true OF WHATEVER IT IS HANDED. -/
theorem law_row {C : Checked} {os : Os} {f : FuncId} {fn : Func} {s : ChangeSpec} {conds : List PathCond} {ctr : Ctr} {ts : List TypeId} {gs : List Gd} {tb : TypeId} (own : ownKnob C.prog.godebug = none) (started : os.Started) (noInit : C.prog.inits.idxOf? f = none) (hfn : C.prog.funcs[f]? = some fn)
    (witness : ∃ (w : World) (tape : Tape) (i : Input), w.os = os ∧ (w.forCall tape i).Shaped C.prog ∧ i.vars = [] ∧ Input.okWide C.prog (w.forCall tape i) .any w.heap.size f i ∧
      s.pre6 enc C.prog fn conds false (w.forCall tape i).memory i.args ∧ ({} : Assume).holds C.prog (lone (Frame.enter C.prog f i.args .normal) [] (w.forCall tape i)))
    (hts : fn.params.toList = ts) (hres : fn.resultTypes.toList = [tb]) (hrs : fn.resultTypes.size = 1) (htb : C.prog.underlying tb = some .bool) (hvars : s.vars = []) (hspec : ∀ ds : List (DataW H), ds.length = ts.length → s.fn H ds = ⟨[.lit (.bool true)], ds, []⟩)
    (hlaid : laidOutB C.prog = true) (hg : laidAll C.prog ts gs = true) (hr : ts.all (fun t => C.prog.readableRec t && decide (t < C.prog.types.size)) = true)
    (hgv : gvars = []) (hctr : Contract C.prog f ctr) (htrue : ∀ ds, Goods gs ds → (ctr.run ds).val = some [⟨.bool, true⟩]) :
    ReturnsInHanded {} C os f .any (s.pre6 enc C.prog fn conds false) (s.post enc C.prog fn false true false false) := by
  refine returnsInHanded_of_change_sized own started noInit hfn witness ?_
  intro W base args ds gs' before hval hW hcnd hsz _
  exact law_calls hts hres hrs htb hvars hspec hlaid hg hr hctr htrue (fun g d h => by rw [hgv] at h; cases h) hval hW hsz

/-- THE SAME, WHERE THE ROW LISTS WHAT PACKAGE VARIABLES HOLD. -/
theorem law_row_laid {C : Checked} {os : Os} {f : FuncId} {fn : Func} {s : ChangeSpec} {conds : List PathCond} {laid : List (String × DataW Unit)} {G : Stop.Interp} {ctr : Ctr} {ts : List TypeId} {gs : List Gd} {tb : TypeId} (own : ownKnob C.prog.godebug = none) (started : os.Started) (noInit : C.prog.inits.idxOf? f = none) (hfn : C.prog.funcs[f]? = some fn)
    (witness : ∃ (w : World) (tape : Tape) (i : Input), w.os = os ∧ (w.forCall tape i).Shaped C.prog ∧ i.vars = [] ∧ Input.okWide C.prog (w.forCall tape i) .any w.heap.size f i ∧
      (OpenSpec.ofChange s).preRow enc C.prog fn conds false laid (w.forCall tape i).memory i.args ∧ ({} : Assume).holds C.prog (lone (Frame.enter C.prog f i.args .normal) [] (w.forCall tape i)))
    (hts : fn.params.toList = ts) (hres : fn.resultTypes.toList = [tb]) (hrs : fn.resultTypes.size = 1) (htb : C.prog.underlying tb = some .bool) (hvars : s.vars = []) (hspec : ∀ ds : List (DataW H), ds.length = ts.length → s.fn H ds = ⟨[.lit (.bool true)], ds, []⟩)
    (hlaid : laidOutB C.prog = true) (hg : laidAll C.prog ts gs = true) (hr : ts.all (fun t => C.prog.readableRec t && decide (t < C.prog.types.size)) = true)
    (hgl : ∀ W : World, laidMetH C.prog laid W → GlobOk (Old W) W) (hctr : Contract C.prog f ctr) (htrue : ∀ ds, Goods gs ds → (ctr.run ds).val = some [⟨.bool, true⟩]) :
    ReturnsInHanded {} C os f .any ((OpenSpec.ofChange s).preRow enc C.prog fn conds false laid) (((OpenSpec.ofChange s).at G).post enc C.prog fn false true false false) := by
  refine returnsInHanded_of_row (s := OpenSpec.ofChange s) own started noInit hfn witness ?_
  intro W base args ds gs' before hval hW _ _ hsz hL _ _
  exact law_calls hts hres hrs htb hvars hspec hlaid hg hr hctr htrue (hgl W hL) hval hW hsz
/-- a table of integers, as data -/
theorem glob_tab {P : Program} {W : World} {g n : Nat} {nm : String} {k : IntKind} {zs : List Int} (hn : zs.length = n) (hg : P.globalNamed nm = some g) (h : Lib.TabIs P W nm k zs) : ∃ cs, Rel (Old W) W (.arr n (.int k)) zs cs [] ∧ CellsAt (Old W) W g 0 cs := by
  refine ⟨zs.map fun z => Value.int k z, ⟨hn, ?_⟩, fun j u hu => ?_⟩
  · clear h hn
    induction zs with
    | nil => exact .nil
    | cons z zs ih => exact RelL.cons (b := []) (c := [.int k z]) ⟨rfl, rfl⟩ ih
  · rw [List.getElem?_map, Option.map_eq_some_iff] at hu
    obtain ⟨z, hz, rfl⟩ := hu
    have hj := (List.getElem?_eq_some_iff.1 hz).1
    have hc := h.cell hg j hj
    rw [List.getD_eq_getElem?_getD, hz] at hc
    rw [Nat.zero_add]
    exact ⟨cell_old hc, hc⟩
theorem globOk_two {F : Nat → Nat → Prop} {W : World} {g0 g1 : Nat} {d0 d1 : DVal} (h : gvars = [(g0, d0), (g1, d1)]) (h0 : ∃ cs, Rel F W d0.t d0.x cs [] ∧ CellsAt F W g0 0 cs) (h1 : ∃ cs, Rel F W d1.t d1.x cs [] ∧ CellsAt F W g1 0 cs) : GlobOk F W := by
  intro g d hd
  rw [h] at hd
  simp only [List.lookup] at hd
  split at hd
  · rename_i e
    cases hd
    rw [beq_iff_eq] at e
    subst e
    exact h0
  · split at hd
    · rename_i e
      cases hd
      rw [beq_iff_eq] at e
      subst e
      exact h1
    · cases hd
end Go.D

/- The abstract machine D, part Q: one step of a region. -/
import Derived.Test.YtmdnddoiopgboaaDoorDO
namespace Go.D
set_option linter.unusedSimpArgs false
set_option linter.unusedVariables false

variable {F F' : Nat → Nat → Prop} {w w' w2 : World} {P : Program} {st st' : St} {L L' : Nat → RLoc} {B B' : Nat → List Nat} {B0 : Base} {F0 : Nat → Nat → Prop} {w0 : World}
variable {fr : List DV} {a : Act} {C : Cfg} {env : Env}

def wantV (ops : Array Oper) (o : Oper) (s : S) : Option Bool :=
  match o.guard with
  | none => some true
  | some (j, want) => match (ops[j]?).bind (·.dst) with
    | some d => match s.fr.getD d .any with
      | .data ⟨.bool, b⟩ => some (b == want)
      | .und => some false
      | _ => none
    | none => none
def stepV (P : Program) (C : Cfg) (env : Env) (ops : Array Oper) (i : Nat) (o : Oper) (s : S) : Option (Did × S) :=
  (wantV ops o s).bind fun yes =>
    if yes then (dop P C env o (fun x => resolve s.st (dval s.fr x))).val.bind fun ve => (apply o.dst s ve).map fun s' =>
      (didOf i o s.fr ve, s')
    else some (⟨i, touched o s.fr, [], [], []⟩, ⟨setFr s.fr o.dst .und, s.st⟩)

theorem set_getD {l : List DV} {d : Nat} {v : DV} (h : l.getD d .any = v) (hv : v ≠ .any) : l.set d v = l := by
  rw [List.getD_eq_getElem?_getD] at h
  cases e : l[d]? with
  | none => rw [e] at h; simp at h; exact absurd h.symm hv
  | some u =>
    rw [e] at h
    simp at h
    subst h
    obtain ⟨hlt, hu⟩ := List.getElem?_eq_some_iff.1 e
    rw [← hu]
    exact List.set_getElem_self hlt

theorem wantK_eq {R : Type} {ops : Array Oper} {o : Oper} {s : S} {K : Bool → S → Option R} : wantK ops o s K = (wantV ops o s).bind fun y => K y s := by
  unfold wantK wantV
  cases hg : o.guard with
  | none => rfl
  | some p =>
    obtain ⟨j, want⟩ := p
    simp only
    cases hd : (ops[j]?).bind (·.dst) with
    | none => rfl
    | some d =>
      simp only
      cases hb : s.fr.getD d .any with
      | data dv =>
        obtain ⟨t, x⟩ := dv
        cases t <;> try rfl
        cases x
        · simp only [set_getD hb (by simp)]
          cases want <;> rfl
        · simp only [set_getD hb (by simp)]
          cases want <;> rfl
      | _ => rfl

theorem force_eq {α β : Type} : ∀ (l : List α) (k : List α → β), force l k = k l
  | [], _ => rfl
  | x :: l, k => by show force l (fun l' => k (x :: l')) = _; rw [force_eq l]
theorem forceS_eq {β : Type} (s : S) (k : S → β) : forceS s k = k s := by first | rfl | rw [forceS, force_eq]
theorem stepK_eq {R : Type} {ops : Array Oper} {i : Nat} {o : Oper} {s : S} {K : Did → S → Option R} : stepK P C env ops i o s K = (stepV P C env ops i o s).bind fun p => K p.1 p.2 := by
  unfold stepK stepV
  rw [wantK_eq]
  cases wantV ops o s with
  | none => rfl
  | some y =>
    cases y
    · simp only [forceS_eq]; rfl
    · simp only [Option.bind_some, if_true, Cmd.run_val, forceS_eq]
      cases (dop P C env o fun x => resolve s.st (dval s.fr x)).val with
      | none => rfl
      | some ve =>
        obtain ⟨v, e⟩ := ve
        simp only [Option.bind_some]
        cases apply o.dst s (v, e) <;> rfl

theorem wanted_of {ops : Array Oper} {o : Oper} {s : S} {y : Bool} (h : wantV ops o s = some y) (hf : FR F w st L s.fr a) : Region.wanted o (yielded ops a.tmps) = y := by
  unfold wantV at h
  unfold Region.wanted
  split at h
  · rename_i hg; rw [hg]; simp at h; simp [h]
  · rename_i j want hg
    rw [hg]
    simp only
    split at h <;> try (cases h; done)
    rename_i d hd
    unfold yielded
    rw [hd, Option.bind_some]
    cases e : s.fr[d]? with
    | none => rw [List.getD_eq_getElem?_getD, e] at h; simp at h
    | some dv =>
      have hrel := hf.rel d dv e
      rw [List.getD_eq_getElem?_getD, e] at h
      simp only [Option.getD_some] at h
      have hlt : d < a.tmps.size := by rw [← hf.len]; exact (List.getElem?_eq_some_iff.1 e).1
      rw [Array.getD_eq_getD_getElem?, Array.getElem?_eq_getElem hlt] at hrel
      simp only [Option.getD_some] at hrel
      split at h
      · rename_i b
        have := relD_bool.1 hrel
        rw [Array.getElem?_eq_getElem hlt, this]
        simp only [Option.some.injEq] at h
        rw [← h]
        cases b <;> cases want <;> rfl
      · have hu : a.tmps[d] = undef := hrel
        rw [Array.getElem?_eq_getElem hlt, hu]
        simp only [Option.some.injEq] at h
        rw [← h]
        cases want <;> rfl
      · cases h

theorem step_wp {ops : Array Oper} {i : Nat} {o : Oper} {s : S} {d : Did} {s' : S} {K : Act → World → Prop} {Q : Exit → Act → World → Prop} (hE : EnvOk P env) (h : stepV P C env ops i o s = some (d, s')) (hi : ops[i]? = some o) (hA : Abs B0 F0 w0 s a w)
    (hK : ∀ a w, Abs B0 F0 w0 s' a w → K a w) : wpOp P ops Q i K a w := by
  obtain ⟨F, L, B, hC⟩ := hA.core
  unfold stepV at h
  obtain ⟨y, hy, h⟩ := Option.bind_eq_some_iff.1 h
  have hw := wanted_of (a := a) hy hC.fr
  unfold wpOp
  rw [hi]
  simp only [hw]
  cases y with
  | true =>
    simp only [if_true] at h ⊢
    obtain ⟨ve, hve, h⟩ := Option.bind_eq_some_iff.1 h
    obtain ⟨s1, hs1, h⟩ := Option.map_eq_some_iff.1 h
    cases h
    exact .inl ((dop_sound hE hC hve hs1).wp fun rv w' hp => hK _ _ hp)
  | false =>
    simp only [Bool.false_eq_true, if_false, Option.some.injEq, Prod.mk.injEq] at h ⊢
    obtain ⟨_, rfl⟩ := h
    exact hK _ _ (hC.value (d := .und) (v := undef) rfl).abs

theorem opsK_wp {R : Type} {r : R} {ops : Array Oper} {Q : Exit → Act → World → Prop} (hE : EnvOk P env) : ∀ (l : List Oper) (i : Nat) (s : S) (K : S → Option R) (a : Act) (w : World), ops.toList.drop i = l → opsK P C env ops i l s K = some r → Abs B0 F0 w0 s a w →
    (∀ s' a w, K s' = some r → Abs B0 F0 w0 s' a w → Q .normal a w) → wpOps P ops Q (List.range' i l.length) a w
  | [], i, s, K, a, w, _, h, hA, hQ => hQ s a w h hA
  | o :: l, i, s, K, a, w, hd, h, hA, hQ => by
    simp only [opsK, stepK_eq] at h
    obtain ⟨⟨d, s1⟩, hs, h⟩ := Option.bind_eq_some_iff.1 h
    simp only [List.length_cons, List.range'_succ]
    rw [wpOps_cons]
    have hio : ops[i]? = some o := by
      rw [← Array.getElem?_toList]
      have := congrArg List.head? hd
      simpa [List.head?_drop] using this
    have hdl : ops.toList.drop (i + 1) = l := by
      have := congrArg List.tail hd
      simpa [List.tail_drop] using this
    exact step_wp hE hs hio hA fun a w hA => opsK_wp hE l (i + 1) s1 K a w hdl h hA hQ
end Go.D

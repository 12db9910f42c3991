/- The abstract machine D, part W: states told by their variables, contracts of typed functions. -/
import Derived.Test.YtmdnddoiopgboaaDoorDV
namespace Go.D
set_option linter.unusedSimpArgs false
set_option linter.unusedVariables false

/-! ### Typed rows of data -/
@[reducible] def Tup : List Ty → Type
  | [] => Unit
  | t :: ts => t.den × Tup ts
def packD : (ts : List Ty) → Tup ts → List DVal
  | [], _ => []
  | t :: ts, x => ⟨t, x.1⟩ :: packD ts x.2
def castD : (ts : List Ty) → List DVal → Option (Tup ts)
  | [], [] => some ()
  | t :: ts, d :: ds => if h : d.t = t then (castD ts ds).map fun r => (h ▸ d.x, r) else none
  | _, _ => none
theorem castD_spec : ∀ (ts : List Ty) (ds : List DVal) (x : Tup ts), castD ts ds = some x → ds = packD ts x
  | [], [], x, _ => rfl
  | [], _ :: _, x, h => by simp [castD] at h
  | _ :: _, [], x, h => by simp [castD] at h
  | t :: ts, d :: ds, x, h => by
    simp only [castD] at h
    split at h <;> try (cases h; done)
    rename_i ht
    obtain ⟨r, hr, rfl⟩ := Option.map_eq_some_iff.1 h
    obtain ⟨dt, dx⟩ := d
    simp only at ht
    subst ht
    simp only [packD]
    rw [castD_spec ts ds r hr]

/-- the contract of a typed function -/
def ctrOf (ts : List Ty) (f : Tup ts → Cmd (List DVal)) : Ctr := ⟨ts, fun ds => match castD ts ds with | some x => f x | none => .fail⟩
theorem ctrOf_val {ts : List Ty} {f : Tup ts → Cmd (List DVal)} {ds rs : List DVal} (h : ((ctrOf ts f).run ds).val = some rs) : ∃ x, ds = packD ts x ∧ (f x).val = some rs := by
  simp only [ctrOf] at h
  split at h
  · rename_i x hx; exact ⟨x, castD_spec _ _ _ hx, h⟩
  · cases h
theorem contract_typed {P : Program} {C : Cfg} {env : Env} {L : Nat → Option Sum} {f : FuncId} {fn : Func} {ts : List Ty} {g : Tup ts → Cmd (List DVal)} (hE : EnvOk P env) (hm : P.follows .mixedOrders = true) (hf : P.funcs[f]? = some fn)
    (hL : ∀ c, fn.body = some c → ∀ p ∈ loopsIn 0 c, SumOk P C env L p.1 p.2) (hS : ∀ c, fn.body = some c → ∀ p ∈ spotsIn 0 c, SpotOk P C env L p) (h : ∀ x rs, (g x).val = some rs → body P C env L fn (packD ts x) = some rs) : Contract P f (ctrOf ts g) :=
  contract_of_body hE hm hf hL hS fun ds rs hr => by
    obtain ⟨x, rfl, hx⟩ := ctrOf_val hr
    exact h x rs hx

/-! ### States by their variables -/
inductive Sl where
  | any | und | nilsl
  | data (t : Ty)
  | rop (t : Ty)
  | tup (ts : List Ty)
  | ptr (k : Nat) (p : List Step)
  | asl (k : Nat) (p : List Step)
  | ref (k : Nat)
  | rref (k : Nat) (p : List Step)
@[reducible] def Sl.v : Sl → Type
  | .data t | .rop t => t.den
  | .tup ts => Tup ts
  | _ => Unit
def Sl.pack : (s : Sl) → s.v → DV
  | .any, _ => .any
  | .und, _ => .und
  | .nilsl, _ => .nilsl
  | .data t, x => .data ⟨t, x⟩
  | .rop t, x => .rop ⟨t, x⟩
  | .tup ts, x => .tup (packD ts x)
  | .ptr k p, _ => .ptr k p
  | .asl k p, _ => .asl k p
  | .ref k, _ => .ref k
  | .rref k p, _ => .rref k p
def Sl.cast : (s : Sl) → DV → Option s.v
  | .any, .any => some ()
  | .und, .und => some ()
  | .nilsl, .nilsl => some ()
  | .data t, .data d => if h : d.t = t then some (h ▸ d.x) else none
  | .rop t, .rop d => if h : d.t = t then some (h ▸ d.x) else none
  | .tup ts, .tup ds => castD ts ds
  | .ptr k p, .ptr k' p' => if k' = k ∧ p' = p then some () else none
  | .asl k p, .asl k' p' => if k' = k ∧ p' = p then some () else none
  | .ref k, .ref k' => if k' = k then some () else none
  | .rref k p, .rref k' p' => if k' = k ∧ p' = p then some () else none
  | _, _ => none
theorem Sl.cast_spec (s : Sl) (d : DV) (x : s.v) (h : s.cast d = some x) : d = s.pack x := by
  cases s <;> cases d <;> simp only [Sl.cast, reduceCtorEq] at h <;> simp only [Sl.pack]
  · split at h <;> try (cases h; done)
    rename_i d ht
    obtain ⟨dt, dx⟩ := d
    simp only at ht
    subst ht
    cases h
    rfl
  · split at h <;> try (cases h; done)
    rename_i d ht
    obtain ⟨dt, dx⟩ := d
    simp only at ht
    subst ht
    cases h
    rfl
  · rw [castD_spec _ _ _ h]
  · split at h <;> try (cases h; done)
    rename_i hh
    rw [hh.1, hh.2]
  · split at h <;> try (cases h; done)
    rename_i hh
    rw [hh.1, hh.2]
  · split at h <;> try (cases h; done)
    rename_i hh
    rw [hh]
  · split at h <;> try (cases h; done)
    rename_i hh
    rw [hh.1, hh.2]

/-- an object's kind; where its watermark is 'none', it is 0 -/
structure Ob where
  k : Nat
  t : Ty
  vir : Bool
  fz : Bool := false
@[reducible] def Ob.v (o : Ob) : Type := o.t.den × (bif o.fz then Nat else Unit)
structure Tm where
  fr : List Sl
  st : List Ob
@[reducible] def FrV : List Sl → Type
  | [] => Unit
  | .data t :: r => t.den × FrV r
  | .rop t :: r => t.den × FrV r
  | .tup ts :: r => Tup ts × FrV r
  | _ :: r => FrV r
@[reducible] def StV : List Ob → Type
  | [] => Unit
  | ⟨_, t, _, true⟩ :: r => t.den × Nat × StV r
  | ⟨_, t, _, false⟩ :: r => t.den × StV r
def packFr : (l : List Sl) → FrV l → List DV
  | [], _ => []
  | .data t :: r, x => .data ⟨t, x.1⟩ :: packFr r x.2
  | .rop t :: r, x => .rop ⟨t, x.1⟩ :: packFr r x.2
  | .tup ts :: r, x => .tup (packD ts x.1) :: packFr r x.2
  | .any :: r, x => .any :: packFr r x
  | .und :: r, x => .und :: packFr r x
  | .nilsl :: r, x => .nilsl :: packFr r x
  | .ptr k p :: r, x => .ptr k p :: packFr r x
  | .asl k p :: r, x => .asl k p :: packFr r x
  | .ref k :: r, x => .ref k :: packFr r x
  | .rref k p :: r, x => .rref k p :: packFr r x
def castFr : (l : List Sl) → List DV → Option (FrV l)
  | [], [] => some ()
  | .data t :: r, d :: ds => (Sl.cast (.data t) d).bind fun x => (castFr r ds).map fun y => (x, y)
  | .rop t :: r, d :: ds => (Sl.cast (.rop t) d).bind fun x => (castFr r ds).map fun y => (x, y)
  | .tup ts :: r, d :: ds => (Sl.cast (.tup ts) d).bind fun x => (castFr r ds).map fun y => (x, y)
  | .any :: r, d :: ds => (Sl.cast .any d).bind fun _ => castFr r ds
  | .und :: r, d :: ds => (Sl.cast .und d).bind fun _ => castFr r ds
  | .nilsl :: r, d :: ds => (Sl.cast .nilsl d).bind fun _ => castFr r ds
  | .ptr k p :: r, d :: ds => (Sl.cast (.ptr k p) d).bind fun _ => castFr r ds
  | .asl k p :: r, d :: ds => (Sl.cast (.asl k p) d).bind fun _ => castFr r ds
  | .ref k :: r, d :: ds => (Sl.cast (.ref k) d).bind fun _ => castFr r ds
  | .rref k p :: r, d :: ds => (Sl.cast (.rref k p) d).bind fun _ => castFr r ds
  | _, _ => none
theorem castFr_spec : ∀ (l : List Sl) (ds : List DV) (x : FrV l), castFr l ds = some x → ds = packFr l x
  | [], [], x, _ => rfl
  | [], _ :: _, x, h => by simp [castFr] at h
  | s :: _, [], x, h => by cases s <;> simp [castFr] at h
  | s :: r, d :: ds, x, h => by
    cases s <;> simp only [castFr, Option.bind_eq_some_iff, Option.map_eq_some_iff] at h <;> simp only [packFr]
    case data t => obtain ⟨u, h1, y, h2, rfl⟩ := h; rw [Sl.cast_spec _ _ _ h1, castFr_spec r ds _ h2]; rfl
    case rop t => obtain ⟨u, h1, y, h2, rfl⟩ := h; rw [Sl.cast_spec _ _ _ h1, castFr_spec r ds _ h2]; rfl
    case tup t => obtain ⟨u, h1, y, h2, rfl⟩ := h; rw [Sl.cast_spec _ _ _ h1, castFr_spec r ds _ h2]; rfl
    all_goals (obtain ⟨u, h1, h2⟩ := h; rw [Sl.cast_spec _ _ _ h1, castFr_spec r ds _ h2]; rfl)
def packSt : (l : List Ob) → StV l → St
  | [], _ => []
  | ⟨k, t, v, true⟩ :: r, x => (k, ⟨t, x.1, v, x.2.1⟩) :: packSt r x.2.2
  | ⟨k, t, v, false⟩ :: r, x => (k, ⟨t, x.1, v, 0⟩) :: packSt r x.2
def castSt : (l : List Ob) → St → Option (StV l)
  | [], [] => some ()
  | ⟨k, t, v, true⟩ :: r, (k', o) :: ds => if h : o.t = t then if k' = k ∧ o.vir = v then (castSt r ds).map fun y => (h ▸ o.x, o.fz, y) else none else none
  | ⟨k, t, v, false⟩ :: r, (k', o) :: ds => if h : o.t = t then if k' = k ∧ o.vir = v ∧ o.fz = 0 then (castSt r ds).map fun y => (h ▸ o.x, y) else none else none
  | _, _ => none
theorem castSt_spec : ∀ (l : List Ob) (ds : St) (x : StV l), castSt l ds = some x → ds = packSt l x
  | [], [], x, _ => rfl
  | [], _ :: _, x, h => by simp [castSt] at h
  | ⟨k, t, v, f⟩ :: _, [], x, h => by cases f <;> simp [castSt] at h
  | ⟨k, t, v, f⟩ :: r, (k', o) :: ds, x, h => by
    obtain ⟨ot, ox, ov, oz⟩ := o
    cases f
    · simp only [castSt] at h
      split at h <;> try (cases h; done)
      rename_i ht
      subst ht
      split at h <;> try (cases h; done)
      rename_i hh
      obtain ⟨rfl, rfl, rfl⟩ := hh
      obtain ⟨y, hy, rfl⟩ := Option.map_eq_some_iff.1 h
      simp only [packSt]
      rw [castSt_spec r ds y hy]
    · simp only [castSt] at h
      split at h <;> try (cases h; done)
      rename_i ht
      subst ht
      split at h <;> try (cases h; done)
      rename_i hh
      obtain ⟨rfl, rfl⟩ := hh
      obtain ⟨y, hy, rfl⟩ := Option.map_eq_some_iff.1 h
      simp only [packSt]
      rw [castSt_spec r ds y hy]
def pack (T : Tm) (x : FrV T.fr × StV T.st) : S := ⟨packFr T.fr x.1, packSt T.st x.2⟩
def unpack (T : Tm) (s : S) : Option (FrV T.fr × StV T.st) := (castFr T.fr s.fr).bind fun x => (castSt T.st s.st).map fun y => (x, y)
theorem unpack_spec {T : Tm} {s : S} {x : FrV T.fr × StV T.st} (h : unpack T s = some x) : s = pack T x := by
  obtain ⟨f, st⟩ := s
  simp only [unpack, Option.bind_eq_some_iff, Option.map_eq_some_iff] at h
  obtain ⟨a, h1, b, h2, rfl⟩ := h
  simp only [pack]
  rw [castFr_spec _ _ _ h1, castSt_spec _ _ _ h2]

/-- a loop's summary, of a function on its variables -/
def sumOf (T : Tm) (f : FrV T.fr × StV T.st → (Ex → S → Option (List DVal)) → Option (List DVal)) : Sum := fun s K => (unpack T s).bind fun x => f x K
theorem sumOk_of {P : Program} {C : Cfg} {env : Env} {L : Nat → Option Sum} {id : Nat} {c : Code} {T : Tm} {f : FrV T.fr × StV T.st → (Ex → S → Option (List DVal)) → Option (List DVal)} (hid : L id = some (sumOf T f))
    (h : ∀ x K r, f x K = some r → ∃ n, rounds (trim C id) (exec P C env L id c) n (pack T x) (fun e s' => K e (trim C (id + 1000000) s')) = some r) : SumOk P C env L id c := by
  intro g hg s K r hr
  rw [hid] at hg
  cases hg
  obtain ⟨x, hx, hr⟩ := Option.bind_eq_some_iff.1 hr
  rw [unpack_spec hx]
  exact h x K r hr
theorem rounds_succ' {tr : S → S} {B : S → (Ex → S → Option (List DVal)) → Option (List DVal)} {n : Nat} {s : S} {K : Ex → S → Option (List DVal)} :
    rounds tr B (n + 1) s K = B s fun e s' => match e with
      | .normal => rounds tr B n (tr s') K
      | e => K e s' := rfl

/-! ### Rounds of typed variables -/
def lp {V R : Type} (round : V → (V → Option R) → Option R) : Nat → V → Option R
  | 0, _ => none
  | n + 1, v => round v (lp round n)
theorem rounds_lp {P : Program} {C : Cfg} {env : Env} {L : Nat → Option Sum} {id : Nat} {c : Code} {T : Tm} {rnd : FrV T.fr × StV T.st → (FrV T.fr × StV T.st → Option (List DVal)) → (Ex → S → Option (List DVal)) → Option (List DVal)}
    (h : ∀ v (r : S → Option (List DVal)) (K : Ex → S → Option (List DVal)), exec P C env L id c (pack T v) (fun e s' => match e with | .normal => r (trim C id s') | e => K e (trim C (id + 1000000) s')) = rnd v (fun v' => r (pack T v')) K) (K : Ex → S → Option (List DVal)) :
    ∀ n v, rounds (trim C id) (exec P C env L id c) n (pack T v) (fun e s' => K e (trim C (id + 1000000) s')) = lp (fun v next => rnd v next K) n v
  | 0, v => rfl
  | n + 1, v => by
    have hf : (fun v' => rounds (trim C id) (exec P C env L id c) n (pack T v') fun e s' => K e (trim C (id + 1000000) s')) = lp (fun v next => rnd v next K) n := funext fun v' => rounds_lp h K n v'
    have := h v (fun s => rounds (trim C id) (exec P C env L id c) n s fun e s' => K e (trim C (id + 1000000) s')) K
    rw [hf] at this
    rw [lp, ← this, rounds]
    congr 1
theorem sumOk_lp {P : Program} {C : Cfg} {env : Env} {L : Nat → Option Sum} {id : Nat} {c : Code} {T : Tm} {rnd : FrV T.fr × StV T.st → (FrV T.fr × StV T.st → Option (List DVal)) → (Ex → S → Option (List DVal)) → Option (List DVal)}
    {f : FrV T.fr × StV T.st → (Ex → S → Option (List DVal)) → Option (List DVal)} (hid : L id = some (sumOf T f))
    (h : ∀ v (r : S → Option (List DVal)) (K : Ex → S → Option (List DVal)), exec P C env L id c (pack T v) (fun e s' => match e with | .normal => r (trim C id s') | e => K e (trim C (id + 1000000) s')) = rnd v (fun v' => r (pack T v')) K)
    (hf : ∀ v K r, f v K = some r → ∃ n, lp (fun v next => rnd v next K) n v = some r) : SumOk P C env L id c :=
  sumOk_of hid fun x K r hr => by
    obtain ⟨n, hn⟩ := hf x K r hr
    exact ⟨n, by rw [rounds_lp h]; exact hn⟩

/-! ### What is called -/
def envNil : Env := fun _ => none
def envCons (f : FuncId) (c : Ctr) (e : Env) : Env := fun g => if g = f then some c else e g
structure Known (P : Program) (f : FuncId) (c : Ctr) : Prop where
  fn : ∃ fn, P.funcs[f]? = some fn ∧ (fn.name == "runtime.NumGoroutine") = false ∧ fn.body.isSome = true
  ct : Contract P f c
theorem envOk_nil (P : Program) : EnvOk P envNil := by
  constructor
  · intro _ _ h; cases h
  · intro _ _ h; cases h
theorem envOk_cons {P : Program} {f : FuncId} {c : Ctr} {e : Env} (h : Known P f c) (k : EnvOk P e) : EnvOk P (envCons f c e) :=
  ⟨fun g c' hg => by
    unfold envCons at hg
    split at hg
    · rename_i e'; cases hg; rw [e']; exact h.fn
    · exact k.fn g c' hg, fun g c' hg => by
    unfold envCons at hg
    split at hg
    · rename_i e'; cases hg; rw [e']; exact h.ct
    · exact k.ct g c' hg⟩

theorem map_cond {α β : Type} (f : α → β) (c : Bool) (a b : Option α) : (bif c then a else b).map f = bif c then a.map f else b.map f := by cases c <;> rfl
theorem map_bind' {α β γ : Type} (f : β → γ) (x : Option α) (g : α → Option β) : (x.bind g).map f = x.bind fun a => (g a).map f := by cases x <;> rfl

/-- a function without loops -/
theorem known_plain {P : Program} {C : Cfg} {env : Env} {L : Nat → Option Sum} {f : FuncId} {fn : Func} {ts : List Ty} {g : Tup ts → Cmd (List DVal)} (hE : EnvOk P env) (hm : P.follows .mixedOrders = true) (hf : P.funcs[f]? = some fn) (hname : (fn.name == "runtime.NumGoroutine") = false) (hbody : fn.body.isSome = true)
    (hL : ∀ c, fn.body = some c → ∀ p ∈ loopsIn 0 c, SumOk P C env L p.1 p.2) (hS : ∀ c, fn.body = some c → ∀ p ∈ spotsIn 0 c, SpotOk P C env L p) (h : ∀ x rs, (g x).val = some rs → body P C env L fn (packD ts x) = some rs) : Known P f (ctrOf ts g) :=
  ⟨⟨fn, hf, hname, hbody⟩, contract_typed hE hm hf hL hS h⟩
def loopIds (fn : Func) : List Nat := match fn.body with | some c => (loopsIn 0 c).map (·.1) | none => []
theorem noLoops {P : Program} {C : Cfg} {env : Env} {L : Nat → Option Sum} {fn : Func} (h : loopIds fn = []) : ∀ c, fn.body = some c → ∀ p ∈ loopsIn 0 c, SumOk P C env L p.1 p.2 := by
  intro c hc p hp
  unfold loopIds at h
  rw [hc] at h
  simp only [List.map_eq_nil_iff] at h
  rw [h] at hp
  cases hp
/-- the body of a loop -/
def loopAt (fn : Func) (i : Nat) : Code := match fn.body with
  | some c => (((loopsIn 0 c)[i]?).map (·.2)).getD .skip
  | none => .skip
theorem oneByOne {P : Program} {C : Cfg} {env : Env} {L : Nat → Option Sum} {fn : Func} {c0 : Code} {l : List (Nat × Code)} (hb : fn.body = some c0) (hl : loopsIn 0 c0 = l) (h : ∀ p ∈ l, SumOk P C env L p.1 p.2) : ∀ c, fn.body = some c → ∀ p ∈ loopsIn 0 c, SumOk P C env L p.1 p.2 := by
  intro c hc p hp
  rw [hb] at hc
  cases hc
  rw [hl] at hp
  exact h p hp
/-- the body of the loop of a block -/
def loopOf (fn : Func) (id : Nat) : Code := match fn.body with
  | some c => (((loopsIn 0 c).find? (fun p => p.1 == id)).map (·.2)).getD .skip
  | none => .skip
theorem nodup_find {c0 : List (Nat × Code)} (h : (c0.map (·.1)).Nodup) : ∀ p ∈ c0, ((c0.find? (fun q => q.1 == p.1)).map (·.2)).getD .skip = p.2 := by
  induction c0 with
  | nil => simp
  | cons a l ih =>
    intro p hp
    simp only [List.map_cons, List.nodup_cons] at h
    rcases List.mem_cons.1 hp with rfl | hp
    · simp
    · have hne : (a.1 == p.1) = false := by
        simp only [beq_eq_false_iff_ne, ne_eq]
        intro e
        exact h.1 (e ▸ List.mem_map.2 ⟨p, hp, rfl⟩)
      rw [List.find?_cons, hne]
      exact ih h.2 p hp
theorem byId {P : Program} {C : Cfg} {env : Env} {L : Nat → Option Sum} {fn : Func} {ids : List Nat} (h : loopIds fn = ids) (hs : ∀ q ∈ ids, SumOk P C env L q (loopOf fn q)) (hn : ids.Nodup := by decide) : ∀ c, fn.body = some c → ∀ p ∈ loopsIn 0 c, SumOk P C env L p.1 p.2 := by
  intro c hc p hp
  unfold loopIds at h
  rw [hc] at h
  simp only at h
  have h2 := hs p.1 (by rw [← h]; exact List.mem_map.2 ⟨p, hp, rfl⟩)
  unfold loopOf at h2
  rw [hc] at h2
  simp only at h2
  rw [nodup_find (by rw [h]; exact hn) p hp] at h2
  exact h2
theorem cond_split {α : Type} {c : Bool} {a b x : α} (ha : a = x) (hb : b = x) : (bif c then a else b) = x := by cases c <;> assumption
theorem lp_succ {V R : Type} (round : V → (V → Option R) → Option R) (n : Nat) (v : V) : lp round (n + 1) v = round v (lp round n) := rfl
/-- a loop's law, of one round: where what comes behind is told by 'spec' at whatever is nearer the end -/
theorem lp_spec {V R : Type} {round : V → (V → Option R) → Option R} {spec : V → Option R} {inv : V → Prop} {μ : V → Nat}
    (h : ∀ v, inv v → ∀ next : V → Option R, (∀ v', inv v' → μ v' < μ v → next v' = spec v') → round v next = spec v) : ∀ v, inv v → ∃ n, lp round n v = spec v := by
  have key : ∀ n v, μ v < n → inv v → lp round n v = spec v := by
    intro n
    induction n with
    | zero => intro v hv; omega
    | succ n ih => intro v hv hi; exact h v hi _ fun v' hi' hlt => ih v' (by omega) hi'
  exact fun v hv => ⟨μ v + 1, key _ v (by omega) hv⟩
theorem getD_at {α : Type} {m : List α} {i : Int} {d : α} (h0 : 0 ≤ i) (h1 : i < (m.length : Int)) : ∃ x, List.getD m i.toNat d = x ∧ m.drop i.toNat = x :: m.drop (i + 1).toNat := by
  have hlt : i.toNat < m.length := by omega
  refine ⟨m[i.toNat], by rw [List.getD_eq_getElem?_getD, List.getElem?_eq_getElem hlt]; rfl, ?_⟩
  rw [List.drop_eq_getElem_cons hlt]
  congr 2
  omega
theorem wrap_next {i n : Int} (h0 : 0 ≤ i) (h1 : i < n) (h2 : n < 4611686018427387904) : IntKind.wrap .i64 (i + 1) = i + 1 := by rw [IntKind.wrap_i64]; omega

/-! ### Places -/
def spotIds (fn : Func) : List Nat := match fn.body with | some c => (spotsIn 0 c).map (·.1) | none => []
def spotOf (fn : Func) (q : Nat) : Nat × Nat × Code := match fn.body with
  | some c => ((spotsIn 0 c).find? (fun p => p.1 == q)).getD (0, 0, .skip)
  | none => (0, 0, .skip)
theorem noSpots {P : Program} {C : Cfg} {env : Env} {L : Nat → Option Sum} {fn : Func} (h : (spotIds fn).all (fun q => (L q).isNone) = true) : ∀ c, fn.body = some c → ∀ p ∈ spotsIn 0 c, SpotOk P C env L p := by
  intro c hc p hp f hf
  unfold spotIds at h
  rw [hc] at h
  have := List.all_eq_true.1 h p.1 (List.mem_map.2 ⟨p, hp, rfl⟩)
  rw [hf] at this
  cases this
theorem count_find {l : List (Nat × Nat × Code)} : ∀ p ∈ l, (l.map (·.1)).count p.1 = 1 → l.find? (fun q => q.1 == p.1) = some p := by
  induction l with
  | nil => intro p hp; cases hp
  | cons a l ih =>
    intro p hp hc
    rw [List.map_cons, List.count_cons] at hc
    rw [List.find?_cons]
    rcases List.mem_cons.1 hp with rfl | hp
    · simp
    · have h1 : 0 < (l.map (·.1)).count p.1 := List.count_pos_iff.2 (List.mem_map.2 ⟨p, hp, rfl⟩)
      cases e : a.1 == p.1 with
      | true => rw [e] at hc; simp at hc; omega
      | false => rw [e] at hc; exact ih p hp (by simpa using hc)
theorem bySpot {P : Program} {C : Cfg} {env : Env} {L : Nat → Option Sum} {fn : Func} {ids : List Nat} (h : (spotIds fn).all (fun q => (L q).isNone || (ids.contains q && (spotIds fn).count q == 1)) = true) (hs : ∀ q ∈ ids, SpotOk P C env L (spotOf fn q)) : ∀ c, fn.body = some c → ∀ p ∈ spotsIn 0 c, SpotOk P C env L p := by
  intro c hc p hp f hf
  unfold spotIds at h
  rw [hc] at h
  have h1 := List.all_eq_true.1 h p.1 (List.mem_map.2 ⟨p, hp, rfl⟩)
  rw [hf] at h1
  simp only [Option.isNone_some, Bool.false_or, Bool.and_eq_true, List.contains_iff_mem, beq_iff_eq] at h1
  have h2 := hs p.1 h1.1
  unfold spotOf at h2
  rw [hc] at h2
  simp only at h2
  rw [count_find p hp h1.2] at h2
  exact h2 f hf
theorem spotOk_of {P : Program} {C : Cfg} {env : Env} {L : Nat → Option Sum} {p : Nat × Nat × Code} {q : Nat} {T : Tm} {f : FrV T.fr × StV T.st → (Ex → S → Option (List DVal)) → Option (List DVal)} (hq : p.1 = q) (hid : L q = some (sumOf T f))
    (h : ∀ x K r, f x K = some r → exec1 P C env L p.2.1 p.2.2 (pack T x) (fun e s' => K e (trim C (q + 10000000) s')) = some r) : SpotOk P C env L p := by
  intro g hg s K r hr
  rw [hq] at hg ⊢
  rw [hid] at hg
  cases hg
  obtain ⟨x, hx, hr⟩ := Option.bind_eq_some_iff.1 hr
  rw [unpack_spec hx]
  exact h x K r hr
/-- an empty list, with its type -/
abbrev nilOf (α : Type) : List α := []
/-- a template, by the places that are not forgotten -/
def fill : Nat → Nat → List (Nat × Sl) → List Sl
  | _, 0, _ => []
  | i, n + 1, [] => .any :: fill (i + 1) n []
  | i, n + 1, (j, s) :: r => if i = j then s :: fill (i + 1) n r else .any :: fill (i + 1) n ((j, s) :: r)
end Go.D

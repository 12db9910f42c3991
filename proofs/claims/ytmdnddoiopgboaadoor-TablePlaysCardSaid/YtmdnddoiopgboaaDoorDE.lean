/- The abstract machine D, part E: its reckoning is the machine's. -/
import Derived.Test.YtmdnddoiopgboaaDoorDD
import Derived.Laws.StructEq
import Derived.Laws.BytesString
namespace Go.D
set_option linter.unusedSimpArgs false
set_option linter.unusedVariables false

variable {α β R : Type}
theorem Cmd.run_val (c : Cmd α) (K : α → Option R) : c.run K = c.val.bind K := by
  induction c with
  | ret a => simp [Cmd.run, Cmd.val]
  | fail => simp [Cmd.run, Cmd.val]
  | lift γ x k ih => cases x <;> simp [Cmd.run, Cmd.val, ih]
  | guard b k ih => cases b <;> simp [Cmd.run, Cmd.val, ih]
theorem Cmd.val_bind (c : Cmd α) (f : α → Cmd β) : (c.bind f).val = c.val.bind fun a => (f a).val := by
  induction c with
  | ret a => simp [Cmd.bind, Cmd.run, Cmd.val]
  | fail => simp [Cmd.bind, Cmd.run, Cmd.val]
  | lift γ x k ih => cases x <;> simp [Cmd.bind, Cmd.run, Cmd.val] at ih ⊢; exact ih _
  | guard b k ih => cases b <;> simp [Cmd.bind, Cmd.run, Cmd.val] at ih ⊢; exact ih
@[simp] theorem Cmd.val_ret (a : α) : (Cmd.ret a).val = some a := rfl
@[simp] theorem Cmd.val_fail : (Cmd.fail : Cmd α).val = none := rfl
@[simp] theorem Cmd.val_guard (b : Bool) (k : Cmd α) : (Cmd.guard b k).val = if b then k.val else none := by cases b <;> rfl
theorem Cmd.val_map (f : α → β) (c : Cmd α) : (c.map f).val = c.val.map f := by
  simp only [Cmd.map, Cmd.val_bind, Cmd.val_ret]
  cases c.val <;> rfl

variable {F : Nat → Nat → Prop} {w : World} {P : Program}

theorem relD_int {k : IntKind} {n : Int} {v : Value} : RelD F w ⟨.int k, n⟩ v ↔ v = .int k n := by
  constructor
  · rintro ⟨cs, h1, h2, _⟩
    simp only [Val, Ty.isAgg, Bool.false_eq_true, if_false] at h1
    rw [h1] at h2
    simpa using h2
  · rintro rfl
    exact ⟨_, rfl, rfl, rfl⟩
theorem relD_bool {b : Bool} {v : Value} : RelD F w ⟨.bool, b⟩ v ↔ v = .bool b := by
  constructor
  · rintro ⟨cs, h1, h2, _⟩
    simp only [Val, Ty.isAgg, Bool.false_eq_true, if_false] at h1
    rw [h1] at h2
    simpa using h2
  · rintro rfl
    exact ⟨_, rfl, rfl, rfl⟩
theorem relD_str {s : ByteArray} {v : Value} : RelD F w ⟨.str, s⟩ v ↔ v = .string s := by
  constructor
  · rintro ⟨cs, h1, h2, _⟩
    simp only [Val, Ty.isAgg, Bool.false_eq_true, if_false] at h1
    rw [h1] at h2
    simpa using h2
  · rintro rfl
    exact ⟨_, rfl, rfl, rfl⟩
theorem relD_agg {t : Ty} {x : t.den} {v : Value} (ha : t.isAgg = true) : RelD F w ⟨t, x⟩ v ↔ ∃ cs : List Value, v = .agg cs.toArray ∧ Rel F w t x cs [] := by
  simp [RelD, Val, ha]

/-! ### Equality -/
theorem run_part (T : TypeId) (cs : List Value) (off : Nat) (t : Ty) (c : List Value) (v : Value) (hs : sized P T t = true) (ha : aggP P T = some t.isAgg) (hv : Val t v c) (hl : c.length = t.size)
    (hc : ∃ l r : List Value, cs = l ++ c ++ r ∧ l.length = off) : (part T cs.toArray off).run P w = .ok v w := by
  obtain ⟨l, r, rfl, rfl⟩ := hc
  simp only [sized, sizeP, beq_iff_eq, Option.map_eq_some_iff] at hs
  obtain ⟨i, hi, hsz⟩ := hs
  unfold aggP at ha
  have hag : (isAgg T).run P w = .ok t.isAgg w := by
    unfold isAgg
    cases hu : P.underlying T with
    | none => simp [hu] at ha
    | some d =>
      rw [hu] at ha
      simp only [Sem.run_bind, run_underlying hu, Result.andThen_ok]
      cases d <;> simp at ha <;> simp [← ha]
  unfold part
  simp only [Sem.run_bind, hag, Result.andThen_ok, Sem.run_ite]
  unfold Val at hv
  cases hb : t.isAgg with
  | true =>
    rw [hb, if_pos rfl] at hv
    simp only [if_true, sizeOf, typeInfo, Sem.run_bind, run_program, Result.andThen_ok, hi, Sem.run_pure, hsz]
    subst hv
    congr 2
    rw [← hl]
    apply Array.toList_inj.1
    simp [List.extract]
  | false =>
    rw [hb, if_neg (by simp)] at hv
    subst hv
    simp

theorem Ty.size_one {t : Ty} (h : t.isAgg = false) : t.size = 1 := by cases t <;> simp_all [Ty.isAgg, Ty.size]
theorem Val.mk_of {t : Ty} {c : List Value} (h : c.length = t.size) : ∃ v, Val t v c := by
  unfold Val
  cases hb : t.isAgg with
  | true => exact ⟨_, rfl⟩
  | false =>
    rw [Ty.size_one hb] at h
    obtain ⟨v, rfl⟩ := List.length_eq_one_iff.1 h
    exact ⟨v, by simp⟩

theorem eqD_spec (d : Nat) : ∀ (n : Nat) (T : TypeId) (t : Ty) (x y : t.den) (vx vy : Value) (cx cy : List Value), eqTy P n T t = true → n ≤ d → aggP P T = some t.isAgg → Val t vx cx → Val t vy cy → Rel F w t x cx [] → Rel F w t y cy [] →
    (Op.equalIn d T vx vy).run P w = .ok (eqD t x y) w := by
  induction d with
  | zero => intro n T t x y vx vy cx cy h hn; have : n = 0 := by omega
            subst this; simp [eqTy] at h
  | succ d ih =>
    intro n T t x y vx vy cx cy h hn hag hvx hvy hx hy
    cases n with
    | zero => simp [eqTy] at h
    | succ n =>
      unfold eqTy at h
      cases hu : P.underlying T with
      | none => rw [hu] at h; simp at h
      | some D =>
        rw [hu] at h
        cases D with
        | bool =>
          cases t <;> simp at h
          simp only [Val, Ty.isAgg, Bool.false_eq_true, if_false] at hvx hvy
          rw [hvx] at hx; rw [hvy] at hy
          simp only [Rel, List.cons.injEq, and_true] at hx hy
          rw [hx, hy, run_equalIn_bool w d T x y hu]; rfl
        | int k =>
          cases t <;> simp at h
          simp only [Val, Ty.isAgg, Bool.false_eq_true, if_false] at hvx hvy
          rw [hvx] at hx; rw [hvy] at hy
          simp only [Rel, List.cons.injEq, and_true] at hx hy
          rw [hx, hy, run_equalIn_int w d T _ k x y hu]; rfl
        | string =>
          cases t <;> simp at h
          simp only [Val, Ty.isAgg, Bool.false_eq_true, if_false] at hvx hvy
          rw [hvx] at hx; rw [hvy] at hy
          simp only [Rel, List.cons.injEq, and_true] at hx hy
          rw [hx, hy, run_equalIn_string w d T x y hu]; rfl
        | array m e =>
          cases t <;> simp at h
          rename_i m' u
          obtain ⟨⟨⟨rfl, hsz⟩, ha⟩, he⟩ := h
          simp only [Val, Ty.isAgg, if_true] at hvx hvy
          subst hvx hvy
          obtain ⟨hlx, hx⟩ := hx
          obtain ⟨hly, hy⟩ := hy
          simp only [Op.equalIn, Sem.run_bind, run_underlying hu, Result.andThen_ok]
          obtain ⟨i, hi, hsi⟩ : ∃ i, P.info? e = some i ∧ i.size = u.size := by simpa [sized, sizeP] using hsz
          simp only [sizeOf, typeInfo, Sem.run_bind, run_program, Result.andThen_ok, hi, Sem.run_pure, hsi]
          rw [Std.Legacy.Range.forIn_eq_forIn_range']
          simp only [Std.Legacy.Range.size, Nat.sub_zero, Nat.add_sub_cancel, Nat.div_one]
          have key : ∀ (k : Nat) (xs ys : List u.den) (c1 c2 p1 p2 : List Value), List.length xs = k → List.length ys = k → RelL (Rel F w u) xs c1 [] → RelL (Rel F w u) ys c2 [] → ∀ j, p1.length = j * u.size → p2.length = j * u.size →
              (forIn (List.range' j k) ((none, PUnit.unit) : Option Bool × PUnit.{1}) (fun i r => do
                  let a ← part e (p1 ++ c1).toArray (i * u.size)
                  let b ← part e (p2 ++ c2).toArray (i * u.size)
                  let r ← Op.equalIn d e a b
                  if (!r) = true then pure (ForInStep.done (some false, PUnit.unit)) else do
                    pure PUnit.unit
                    pure (ForInStep.yield (none, PUnit.unit))) : Sem (Option Bool × PUnit.{1})).run P w =
                .ok (bif eqL (eqD u) xs ys then none else some false, PUnit.unit) w := by
            intro k
            induction k with
            | zero =>
              intro xs ys c1 c2 p1 p2 h1 h2 _ _ j _ _
              have h1 : xs = [] := List.length_eq_zero_iff.1 h1
              have h2 : ys = [] := List.length_eq_zero_iff.1 h2
              subst h1 h2
              simp [eqL]
            | succ k ihk =>
              intro xs ys c1 c2 p1 p2 h1 h2 r1 r2 j l1 l2
              obtain ⟨a, xs, rfl⟩ : ∃ a l, xs = a :: l := by cases xs with | nil => simp at h1 | cons a l => exact ⟨a, l, rfl⟩
              obtain ⟨b, ys, rfl⟩ : ∃ a l, ys = a :: l := by cases ys with | nil => simp at h2 | cons a l => exact ⟨a, l, rfl⟩
              obtain ⟨a1, c1, b1, bs1, rfl, e1, ra, r1⟩ := r1.uncons
              obtain ⟨a2, c2, b2, bs2, rfl, e2, rb, r2⟩ := r2.uncons
              obtain ⟨rfl, rfl⟩ : b1 = [] ∧ bs1 = [] := by simpa using e1.symm
              obtain ⟨rfl, rfl⟩ : b2 = [] ∧ bs2 = [] := by simpa using e2.symm
              have la := Rel.length _ _ _ _ ra
              have lb := Rel.length _ _ _ _ rb
              obtain ⟨va, hva⟩ := Val.mk_of la
              obtain ⟨vb, hvb⟩ := Val.mk_of lb
              rw [List.range'_succ, List.forIn_cons]
              simp only [Sem.run_bind]
              rw [run_part e _ _ u a1 va hsz ha hva la ⟨p1, c1, by simp, l1⟩]
              simp only [Result.andThen_ok]
              rw [run_part e _ _ u a2 vb hsz ha hvb lb ⟨p2, c2, by simp, l2⟩]
              simp only [Result.andThen_ok]
              rw [ih n e u a b va vb a1 a2 he (by omega) ha hva hvb ra rb]
              simp only [Result.andThen_ok, eqL]
              by_cases hq : eqD u a b = true
              case neg => simp [show eqD u a b = false by simpa using hq]
              case pos =>
                rw [hq]
                simp only [Bool.not_true, Bool.false_eq_true, if_false, Sem.run_pure, Result.andThen_ok, Bool.true_and]
                have := ihk xs ys c1 c2 (p1 ++ a1) (p2 ++ a2) (by simpa using h1) (by simpa using h2) r1 r2 (j + 1) (by simp [l1, la, Nat.add_mul]) (by simp [l2, lb, Nat.add_mul])
                simpa only [List.append_assoc] using this
          have := key m x y cx cy [] [] hlx hly hx hy 0 (by simp) (by simp)
          simp only [List.nil_append] at this
          rw [this]
          simp only [Result.andThen_ok, eqD]
          cases eqL (eqD u) x y <;> simp
        | struct fs =>
          have hfs : P.fieldsOf T = fs := by simp [Program.fieldsOf, hu]
          have hag2 : t.isAgg = true := by unfold aggP at hag; rw [hu] at hag; simpa using hag.symm
          simp only [Bool.and_eq_true, Bool.not_eq_true'] at h
          simp only [Val, hag2, if_true] at hvx hvy
          subst hvx hvy
          rw [run_equalIn_struct w d T cx.toArray cy.toArray (by rw [hfs]; exact hu) h.1, hfs]
          have hf := h.2
          generalize fs.toList = l at hf
          have key : ∀ (l : List Field) (t : Ty) (x y : t.den) (c1 c2 p1 p2 : List Value) (off : Nat), eqTy.eqFields (eqTy P n) (sized P) (fun t u => aggP P t == some u.isAgg) off l t = true → Rel F w t x c1 [] → Rel F w t y c2 [] → p1.length = off → p2.length = off →
              (Op.eqFields d (p1 ++ c1).toArray (p2 ++ c2).toArray l).run P w = .ok (eqD t x y) w := by
            intro l
            induction l with
            | nil =>
              intro t x y c1 c2 p1 p2 off hl _ _ _ _
              cases t <;> simp [eqTy.eqFields] at hl
              simp [Op.eqFields, eqD]
            | cons f l ihl =>
              intro t x y c1 c2 p1 p2 off hl rx ry l1 l2
              cases t <;> simp [eqTy.eqFields] at hl
              rename_i ta tb
              obtain ⟨⟨⟨⟨⟨hn1, ho⟩, hsz⟩, hagf⟩, heq⟩, hrest⟩ := hl
              obtain ⟨a1, b1, z1, z2, rfl, e1, ra1, ra2⟩ := rx
              obtain ⟨a2, b2, z3, z4, rfl, e2, rb1, rb2⟩ := ry
              obtain ⟨rfl, rfl⟩ : z1 = [] ∧ z2 = [] := by simpa using e1.symm
              obtain ⟨rfl, rfl⟩ : z3 = [] ∧ z4 = [] := by simpa using e2.symm
              have la := Rel.length _ _ _ _ ra1
              have lb := Rel.length _ _ _ _ rb1
              obtain ⟨va, hva⟩ := Val.mk_of la
              obtain ⟨vb, hvb⟩ := Val.mk_of lb
              unfold Op.eqFields
              rw [if_pos hn1]
              simp only [Sem.run_bind]
              rw [run_part f.type _ _ ta a1 va hsz hagf hva la ⟨p1, b1, by simp, by rw [l1, ho]⟩]
              simp only [Result.andThen_ok]
              rw [run_part f.type _ _ ta a2 vb hsz hagf hvb lb ⟨p2, b2, by simp, by rw [l2, ho]⟩]
              simp only [Result.andThen_ok]
              rw [ih n f.type ta x.1 y.1 va vb a1 a2 heq (by omega) hagf hva hvb ra1 rb1]
              simp only [Result.andThen_ok, eqD, Sem.run_ite]
              by_cases hq : eqD ta x.1 y.1 = true
              case neg => simp [show eqD ta x.1 y.1 = false by simpa using hq]
              case pos =>
                rw [hq]
                simp only [Bool.not_true, Bool.false_eq_true, if_false, Bool.true_and]
                have := ihl tb x.2 y.2 b1 b2 (p1 ++ a1) (p2 ++ a2) (off + ta.size) hrest ra2 rb2 (by simp [l1, la]) (by simp [l2, lb])
                simpa only [List.append_assoc] using this
          have := key l t x y cx cy [] [] 0 hf hx hy rfl rfl
          simpa using this
        | _ => simp at h

/-! ### Binary operations -/
theorem binInt_spec {op : BinOp} {k : IntKind} {x y : Int} {d : DVal} (T : TypeId) (h : (binInt op k x y).val = some d) :
    ∃ v, (binOp op T (.int k x) (.int k y)).run P w = .ok v w ∧ RelD F w d v := by
  cases op <;> simp only [binInt, Cmd.val_ret, Cmd.val_fail, Cmd.val_guard, Option.some.injEq, reduceCtorEq] at h
  case add => subst h; exact ⟨_, by rw [binOp_add]; rfl, relD_int.2 rfl⟩
  case sub => subst h; exact ⟨_, by rw [binOp_sub]; rfl, relD_int.2 rfl⟩
  case mul => subst h; exact ⟨_, by rw [binOp_mul]; rfl, relD_int.2 rfl⟩
  case and => subst h; exact ⟨_, by rw [binOp_and]; rfl, relD_int.2 rfl⟩
  case or => subst h; exact ⟨_, by rw [binOp_or]; rfl, relD_int.2 rfl⟩
  case xor => subst h; exact ⟨_, by rw [binOp_xor]; rfl, relD_int.2 rfl⟩
  case andNot => subst h; exact ⟨_, by rw [binOp_andNot]; rfl, relD_int.2 rfl⟩
  case eql => subst h; exact ⟨_, by rw [binOp_eql]; rfl, relD_bool.2 rfl⟩
  case neq => subst h; exact ⟨_, by rw [binOp_neq]; rfl, relD_bool.2 rfl⟩
  case lss => subst h; exact ⟨_, by rw [binOp_lss]; rfl, relD_bool.2 rfl⟩
  case leq => subst h; exact ⟨_, by rw [binOp_leq]; rfl, relD_bool.2 rfl⟩
  case gtr => subst h; exact ⟨_, by rw [binOp_gtr]; rfl, relD_bool.2 rfl⟩
  case geq => subst h; exact ⟨_, by rw [binOp_geq]; rfl, relD_bool.2 rfl⟩
  case quo =>
    split at h
    · rename_i hy
      simp only [bne_iff_ne, ne_eq] at hy
      simp only [Option.some.injEq] at h
      subst h
      exact ⟨_, by rw [binOp_quo, Op.intDiv, if_neg hy]; rfl, relD_int.2 rfl⟩
    · cases h
  case rem =>
    split at h
    · rename_i hy
      simp only [bne_iff_ne, ne_eq] at hy
      simp only [Option.some.injEq] at h
      subst h
      exact ⟨_, by rw [binOp_rem, Op.intDiv, if_neg hy]; rfl, relD_int.2 rfl⟩
    · cases h

theorem binStr_spec {op : BinOp} {x y : ByteArray} {d : DVal} (T : TypeId) (h : (binStr op x y).val = some d) :
    ∃ v, (binOp op T (.string x) (.string y)).run P w = .ok v w ∧ RelD F w d v := by
  have e : ∀ op, binOp op T (.string x) (.string y) = Op.stringOp op x y := by intro op; cases op <;> rfl
  rw [e]
  cases op <;> simp only [binStr, Cmd.val_ret, Cmd.val_fail, Cmd.val_guard, Option.some.injEq, reduceCtorEq] at h
  case eql => subst h; exact ⟨_, rfl, relD_bool.2 rfl⟩
  case neq => subst h; exact ⟨_, rfl, relD_bool.2 rfl⟩
  case lss => subst h; exact ⟨_, rfl, relD_bool.2 rfl⟩
  case leq => subst h; exact ⟨_, rfl, relD_bool.2 rfl⟩
  case gtr => subst h; exact ⟨_, rfl, relD_bool.2 rfl⟩
  case geq => subst h; exact ⟨_, rfl, relD_bool.2 rfl⟩
  case add =>
    split at h
    · rename_i hy
      simp only [decide_eq_true_eq] at hy
      simp only [Option.some.injEq] at h
      subst h
      refine ⟨.string (x ++ y), ?_, relD_str.2 rfl⟩
      simp only [Op.stringOp, IntKind.max_i64]
      rw [if_neg (by omega)]
      rfl
    · cases h

theorem Val.agg {t : Ty} {v : Value} {cs : List Value} (ha : t.isAgg = true) (h : Val t v cs) : v = .agg cs.toArray := by simpa [Val, ha] using h

theorem aggP_of_eqTy {n : Nat} {T : TypeId} {t : Ty} (h : eqTy P n T t = true) : aggP P T = some t.isAgg := by
  cases n with
  | zero => simp [eqTy] at h
  | succ n =>
    unfold eqTy at h
    unfold aggP
    cases hu : P.underlying T with
    | none => rw [hu] at h; simp at h
    | some D =>
      rw [hu] at h
      cases D <;> cases t <;> simp [eqTy.eqFields, Ty.isAgg] at h ⊢
      all_goals
        (obtain ⟨_, h⟩ := h
         generalize (Array.toList _) = l at h
         cases l <;> simp [eqTy.eqFields] at h)

theorem binEq_spec {op : BinOp} {T : TypeId} {t : Ty} {x y : t.den} {d : DVal} {vx vy : Value} (X Y : Operand) (h : (binEq P op T t x y).val = some d) (hx : RelD F w ⟨t, x⟩ vx) (hy : RelD F w ⟨t, y⟩ vy) (hne : t.isAgg = true ∨ t = .bool) :
    ∃ v, (do eqGuard op T X Y vx vy; binOp op T vx vy : Sem Value).run P w = .ok v w ∧ RelD F w d v := by
  have key : eqTy P 20 T t = true → P.eqGuardType P.depth T = false → (op = .eql ∨ op = .neq) →
      (do eqGuard op T X Y vx vy; binOp op T vx vy : Sem Value).run P w = .ok (.bool (if op = .eql then eqD t x y else !eqD t x y)) w := by
    intro h1 h2 hop
    have ha := aggP_of_eqTy h1
    rcases hne with hb | rfl
    · obtain ⟨cx, hvx, hx⟩ := hx
      obtain ⟨cy, hvy, hy⟩ := hy
      have he := eqD_spec (F := F) (w := w) 10000 20 T t x y vx vy cx cy h1 (by omega) ha hvx hvy hx hy
      rw [Val.agg hb hvx, Val.agg hb hvy] at he ⊢
      simp only [Sem.run_bind, run_eqGuard_agg w op T X Y _ _ h2, Result.andThen_ok]
      rcases hop with rfl | rfl
      · rw [run_eql_struct, he]; simp
      · rw [run_neq_struct, he]; simp
    · obtain rfl := relD_bool.1 hx
      obtain rfl := relD_bool.1 hy
      have hu : P.underlying T = some .bool := by
        unfold eqTy at h1
        cases hu : P.underlying T with
        | none => rw [hu] at h1; simp at h1
        | some D =>
          rw [hu] at h1
          cases D <;> simp at h1
          · rfl
          · obtain ⟨_, h1⟩ := h1
            generalize (Array.toList _) = l at h1
            cases l <;> simp [eqTy.eqFields] at h1
      simp only [eqGuard_at_bool, Sem.run_bind, Sem.run_pure, Result.andThen_ok]
      rcases hop with rfl | rfl
      · rw [run_eql_bool w T x y hu]; rfl
      · rw [run_neq_bool w T x y hu]; rfl
  cases op <;> simp only [binEq, Cmd.val_fail, Cmd.val_guard, Cmd.val_ret, reduceCtorEq] at h
  all_goals
    split at h
    · rename_i hc
      simp only [Bool.and_eq_true, Bool.not_eq_true'] at hc
      simp only [Option.some.injEq] at h
      subst h
      exact ⟨_, key hc.1 hc.2 (by simp), by simpa [bool] using relD_bool.2 rfl⟩
    · cases h

theorem shift_spec {op : BinOp} {k yk : IntKind} {x y : Int} (hy : 0 ≤ y) : (op = .shl → (Op.shift op k x yk y).run P w = .ok (.int k (shl k x y)) w) ∧ (op = .shr → (Op.shift op k x yk y).run P w = .ok (.int k (shr k x y)) w) := by
  constructor
  · rintro rfl
    unfold Op.shift
    rw [if_neg (by omega)]
    rfl
  · rintro rfl
    unfold Op.shift
    rw [if_neg (by omega)]
    rfl

theorem binop_spec {op : BinOp} {T : TypeId} {a b d : DVal} {va vb : Value} (X Y : Operand) (h : (binop P op T a b).val = some d) (ha : RelD F w a va) (hb : RelD F w b vb) :
    ∃ v, (do eqGuard op T X Y va vb; binOp op T va vb : Sem Value).run P w = .ok v w ∧ RelD F w d v := by
  obtain ⟨ta, xa⟩ := a
  obtain ⟨tb, xb⟩ := b
  cases ta with
  | int k =>
    obtain rfl := relD_int.1 ha
    cases tb with
    | int k' =>
      obtain rfl := relD_int.1 hb
      simp only [eqGuard_at_int, Sem.run_bind, Sem.run_pure, Result.andThen_ok]
      cases op
      case shl =>
        simp only [binop, Cmd.val_guard, Cmd.val_ret] at h
        split at h
        · rename_i hy
          simp only [decide_eq_true_eq] at hy
          simp only [Option.some.injEq] at h
          subst h
          exact ⟨_, by rw [binOp_shl]; exact (shift_spec hy).1 rfl, relD_int.2 rfl⟩
        · cases h
      case shr =>
        simp only [binop, Cmd.val_guard, Cmd.val_ret] at h
        split at h
        · rename_i hy
          simp only [decide_eq_true_eq] at hy
          simp only [Option.some.injEq] at h
          subst h
          exact ⟨_, by rw [binOp_shr]; exact (shift_spec hy).2 rfl, relD_int.2 rfl⟩
        · cases h
      all_goals
        simp only [binop] at h
        split at h
        · rename_i hk
          subst hk
          exact binInt_spec T h
        · cases h
    | _ => simp [binop] at h
  | str =>
    obtain rfl := relD_str.1 ha
    cases tb with
    | str =>
      obtain rfl := relD_str.1 hb
      simp only [eqGuard_at_string, Sem.run_bind, Sem.run_pure, Result.andThen_ok]
      exact binStr_spec T h
    | _ => simp [binop] at h
  | bool =>
    cases tb with
    | bool => exact binEq_spec X Y h ha hb (.inr rfl)
    | _ => simp [binop] at h
  | pair u v =>
    simp only [binop] at h
    split at h
    · rename_i e
      subst e
      exact binEq_spec X Y h ha hb (.inl rfl)
    · cases h
  | arr n u =>
    simp only [binop] at h
    split at h
    · rename_i e
      subst e
      exact binEq_spec X Y h ha hb (.inl rfl)
    · cases h
  | _ => simp [binop] at h

theorem unop_spec {op : UnOp} {a d : DVal} {va : Value} (h : (unop op a).val = some d) (ha : RelD F w a va) : ∃ v, (Op.unary op va).run P w = .ok v w ∧ RelD F w d v := by
  obtain ⟨ta, xa⟩ := a
  cases ta with
  | int k =>
    obtain rfl := relD_int.1 ha
    cases op <;> simp only [unop, Cmd.val_ret, Cmd.val_fail, Option.some.injEq, reduceCtorEq] at h
    · subst h; exact ⟨_, rfl, relD_int.2 rfl⟩
    · subst h; exact ⟨_, rfl, relD_int.2 rfl⟩
  | bool =>
    obtain rfl := relD_bool.1 ha
    cases op <;> simp only [unop, Cmd.val_ret, Cmd.val_fail, Option.some.injEq, reduceCtorEq] at h
    subst h; exact ⟨_, rfl, relD_bool.2 rfl⟩
  | _ => simp [unop] at h
end Go.D

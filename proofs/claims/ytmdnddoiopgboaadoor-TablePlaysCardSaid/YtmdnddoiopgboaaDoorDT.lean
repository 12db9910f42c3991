/- The abstract machine D, part T: code, functions. -/
import Derived.Test.YtmdnddoiopgboaaDoorDR
namespace Go.D
set_option linter.unusedSimpArgs false
set_option linter.unusedVariables false

variable {F F' : Nat → Nat → Prop} {w w' w2 : World} {P : Program} {st st' : St} {L L' : Nat → RLoc} {B B' : Nat → List Nat} {B0 : Base} {F0 : Nat → Nat → Prop} {w0 : World}
variable {fr : List DV} {a : Act} {C : Cfg} {env : Env}

def Ex.exit' : Ex → Exit
  | .normal => .normal
  | .ret => .ret
  | .exit i => .exit i

theorem keepFr_at (ks ko : List Nat) : ∀ (fr : List DV) (i j : Nat) (d : DV), (keepFr ks ko i fr)[j]? = some d → d = .any ∨ (fr[j]? = some d ∧ ∀ k, d.key = some k → k ∈ ko)
  | [], i, j, d, h => by simp [keepFr] at h
  | x :: fr, i, 0, d, h => by
    simp only [keepFr, List.getElem?_cons_zero, Option.some.injEq] at h ⊢
    split at h
    · cases x <;> simp only at h <;> first
        | (split at h
           · rename_i hk
             refine .inr ⟨h, fun k e => ?_⟩
             rw [← h] at e
             simp only [DV.key, Option.some.injEq] at e
             subst e
             simpa using hk
           · exact .inl h.symm)
        | (refine .inr ⟨h, fun k e => ?_⟩
           rw [← h] at e
           simp [DV.key] at e)
    · exact .inl h.symm
  | x :: fr, i, j + 1, d, h => by
    simp only [keepFr, List.getElem?_cons_succ] at h ⊢
    exact keepFr_at ks ko fr (i + 1) j d h
theorem keepFr_length (ks ko : List Nat) : ∀ (fr : List DV) (i : Nat), (keepFr ks ko i fr).length = fr.length
  | [], _ => rfl
  | x :: fr, i => by simp [keepFr, keepFr_length ks ko fr (i + 1)]
theorem get_keep (ks : List Nat) : ∀ (st : St) (k : Nat), (st.keep ks).get k = if k ∈ ks then st.get k else none
  | [], k => by simp [St.keep, St.get]
  | (j, o) :: r, k => by
    simp only [St.keep]
    have ih := get_keep ks r k
    by_cases hj : ks.contains j = true
    · rw [if_pos hj]
      simp only [St.get]
      by_cases e : j = k
      · subst e
        have : j ∈ ks := by simpa using hj
        simp [this]
      · rw [if_neg e, if_neg e, ih]
    · rw [if_neg hj, ih]
      simp only [St.get]
      by_cases e : j = k
      · subst e
        have : j ∉ ks := by simpa using hj
        simp [this]
      · rw [if_neg e]

theorem adopt1_abs {slot key : Nat} {t : Ty} {s : S} {a : Act} {w : World} (h : Abs B0 F0 w0 s a w) : Abs B0 F0 w0 (adopt1 s slot key t) a w := by
  unfold adopt1
  split
  · rename_i h1 h2
    split
    · rename_i hp
      simp only [Bool.and_eq_true, bne_iff_ne, ne_eq] at hp
      obtain ⟨hp, hkp⟩ := hp
      obtain ⟨⟨F, L, B, hs, hf, h3, h4⟩, h5, h6, h7⟩ := h
      have hget : ∀ k ob, k ≠ key → (s.st.put key ⟨.own t, [], true, 0⟩).get k = some ob → s.st.get k = some ob := fun k ob hk hg => by rwa [get_put_other _ hk] at hg
      have hold : ∀ k ob, s.st.get k = some ob → k ≠ key := fun k ob hk e => by rw [e, h2] at hk; cases hk
      refine ⟨⟨F, fun k => if k = key then .hdr (.slice none 0 0) else L k, fun k => if k = key then [] else B k, ⟨fun k ob hk => ?_, fun k ob hk => ?_, fun j k hjk hj hk => ?_, hs.froz, fun k ob hk => ?_, fun v ob hv hk => by rw [if_neg (Ne.symm hkp)]; exact hs.pin v ob hv (hget _ ob (Ne.symm hkp) hk)⟩, ⟨by simpa using hf.len, fun i d hd => ?_, hf.glob⟩, h3, h4⟩, h5, h6, h7⟩
      · by_cases e : k = key
        · subst e
          rw [get_put_same] at hk
          cases hk
          rw [if_pos rfl, if_pos rfl]
          exact ⟨⟨hp, Nat.le_refl _⟩, .inl ⟨rfl, rfl, rfl⟩⟩
        · rw [if_neg e, if_neg e]
          exact hs.obj k ob (hget k ob e hk)
      · by_cases e : k = key
        · subst e
          rw [get_put_same] at hk
          cases hk
          rw [if_pos rfl]
          intro b hb
          cases hb
        · rw [if_neg e]
          exact hs.thaw k ob (hget k ob e hk)
      · by_cases e : j = key
        · rw [if_pos e]; intro b hb; cases hb
        · rw [if_neg e]
          by_cases e2 : k = key
          · rw [if_pos e2]; intro b _ hb; cases hb
          · rw [if_neg e2]
            exact hs.apart j k hjk (by rwa [get_put_other _ e] at hj) (by rwa [get_put_other _ e2] at hk)
      · by_cases e : k = key
        · rw [if_pos e]; intro b hb; cases hb
        · rw [if_neg e]
          exact hs.own k ob (hget k ob e hk)
      · rw [List.getElem?_set] at hd
        split at hd
        · rename_i e
          subst e
          split at hd <;> try (cases hd; done)
          rename_i hlt
          simp only [Option.some.injEq] at hd
          subst hd
          have hn : s.fr[slot]? = some .nilsl := by
            rw [List.getD_eq_getElem?_getD, List.getElem?_eq_getElem hlt] at h1
            simp only [Option.getD_some] at h1
            rw [List.getElem?_eq_getElem hlt, h1]
          have hv : a.tmps.getD slot undef = .slice none 0 0 := hf.rel slot _ hn
          refine ⟨_, get_put_same _ _ _, rfl, ?_⟩
          rw [hv]
          simp only [if_true]
        · have hr := hf.rel i d hd
          cases d <;> simp only [RelV] at hr ⊢ <;> try exact hr
          · obtain ⟨ob, g, o, k1, k2⟩ := hr
            have hne := hold _ _ k1
            exact ⟨ob, g, o, by rw [get_put_other _ hne]; exact k1, by rw [if_neg hne]; exact k2⟩
          · obtain ⟨ob, g, o, n, t', k1, k2⟩ := hr
            have hne := hold _ _ k1
            exact ⟨ob, g, o, n, t', by rw [get_put_other _ hne]; exact k1, by rw [if_neg hne]; exact k2⟩
          · obtain ⟨ob, k1, k2⟩ := hr
            have hne := hold _ _ k1
            exact ⟨ob, by rw [get_put_other _ hne]; exact k1, by rw [if_neg hne]; exact k2⟩
          · obtain ⟨ob, g, o, t', k1, k2⟩ := hr
            have hne := hold _ _ k1
            exact ⟨ob, g, o, t', by rw [get_put_other _ hne]; exact k1, by rw [if_neg hne]; exact k2⟩
    · exact h
  · exact h
theorem adopts_abs {id : Nat} {a : Act} {w : World} : ∀ (l : List (Nat × Nat × Nat × Ty)) (s : S), Abs B0 F0 w0 s a w → Abs B0 F0 w0 (adopts id l s) a w
  | [], s, h => h
  | (i, slot, key, t) :: r, s, h => by
    simp only [adopts]
    split
    · exact adopts_abs r _ (adopt1_abs h)
    · exact adopts_abs r _ h

theorem trim_abs {id : Nat} {s : S} {a : Act} {w : World} (h : Abs B0 F0 w0 s a w) : Abs B0 F0 w0 (trim C id s) a w := by
  unfold trim
  refine adopts_abs _ _ ?_
  split
  · rename_i ks ko _
    obtain ⟨⟨F, L, B, h1, h2, h3, h4⟩, h5, h6, h7⟩ := h
    have hget : ∀ k ob, (s.st.keep ko).get k = some ob → s.st.get k = some ob ∧ k ∈ ko := fun k ob hk => by
      rw [get_keep] at hk
      split at hk
      · exact ⟨hk, by assumption⟩
      · cases hk
    have hsome : ∀ k, ((s.st.keep ko).get k).isSome = true → (s.st.get k).isSome = true := fun k hk => by
      obtain ⟨ob, hob⟩ := Option.isSome_iff_exists.1 hk
      rw [(hget k ob hob).1]; rfl
    refine ⟨⟨F, L, B, ⟨fun k ob hk => h1.obj k ob (hget k ob hk).1, fun k ob hk => h1.thaw k ob (hget k ob hk).1, fun j k hjk hj hk => h1.apart j k hjk (hsome j hj) (hsome k hk), h1.froz, fun k ob hk => h1.own k ob (hget k ob hk).1, fun v ob hv hk => h1.pin v ob hv (hget _ ob hk).1⟩, ⟨by rw [keepFr_length]; exact h2.len, fun i d hd => ?_, h2.glob⟩, h3, h4⟩, h5, h6, h7⟩
    rcases keepFr_at ks ko s.fr 0 i d hd with rfl | ⟨hd, hk⟩
    · trivial
    · have hr := h2.rel i d hd
      have hsame : ∀ k, d.key = some k → (s.st.keep ko).get k = s.st.get k := fun k e => by rw [get_keep, if_pos (hk k e)]
      cases d <;> simp only [RelV] at hr ⊢ <;> first | exact hr | (rw [hsame _ rfl]; exact hr)
  · exact h

/-- a loop's summary is true -/
def SumOk (P : Program) (C : Cfg) (env : Env) (L : Nat → Option Sum) (id : Nat) (c : Code) : Prop :=
  ∀ f, L id = some f → ∀ s K r, f s K = some r → ∃ n, rounds (trim C id) (exec P C env L id c) n s (fun e s' => K e (trim C (id + 1000000) s')) = some r

/-- what is told of a place is true -/
def SpotOk (P : Program) (C : Cfg) (env : Env) (L : Nat → Option Sum) (p : Nat × Nat × Code) : Prop :=
  ∀ f, L p.1 = some f → ∀ s K r, f s K = some r → exec1 P C env L p.2.1 p.2.2 s (fun e s' => K e (trim C (p.1 + 10000000) s')) = some r

theorem exec_wp {L : Nat → Option Sum} {r : List DVal} (hE : EnvOk P env) (hm : P.follows .mixedOrders = true) : ∀ (c : Code) (id : Nat) (s : S) (K : Ex → S → Option (List DVal)) (a : Act) (w : World) (Q : Exit → Act → World → Prop), (∀ p ∈ loopsIn id c, SumOk P C env L p.1 p.2) → (∀ p ∈ spotsIn id c, SpotOk P C env L p) →
    exec P C env L id c s K = some r → Abs B0 F0 w0 s a w → (∀ e s' a w, K e s' = some r → Abs B0 F0 w0 s' a w → Q e.exit' a w) → c.wp P Q a w := by
  intro c
  induction c with
  | skip => intro id s K a w Q hL hS h hA hQ; exact wp_skip (hQ .normal s a w h hA)
  | region rid ops draw =>
    intro id s K a w Q hL hS h hA hQ
    have main : ∀ (s : S) (K : Ex → S → Option (List DVal)), exec1 P C env L id (.region rid ops draw) s K = some r → Abs B0 F0 w0 s a w → (∀ e s' a w, K e s' = some r → Abs B0 F0 w0 s' a w → Q e.exit' a w) → (Code.region rid ops draw).wp P Q a w := by
      intro s K h hA hQ
      simp only [exec1] at h
      cases draw with
      | true =>
        simp only [if_true] at h
        exact draw_wp hE hm h hA fun s' a w hk hA => hQ .normal s' a w hk hA
      | false =>
        simp only [Bool.false_eq_true, if_false] at h
        refine wp_region ?_
        have := opsK_wp (Q := Q) hE ops.toList 0 s (fun s' => K .normal s') a w rfl h hA fun s' a w hk hA => hQ .normal s' a w hk hA
        rw [List.range_eq_range']
        simpa using this
    simp only [exec] at h
    split at h
    · rename_i f hf
      exact main _ _ (hS (2000000 + rid, id, .region rid ops draw) (by simp [spotsIn]) f hf _ _ _ h) (trim_abs hA) fun e s' a w hk hA => hQ e _ a w hk (trim_abs hA)
    · exact main s K h hA hQ
  | seq x y ihx ihy =>
    intro id s K a w Q hL hS h hA hQ
    simp only [exec] at h
    simp only [loopsIn, List.mem_append] at hL
    simp only [spotsIn, List.mem_append] at hS
    refine wp_seq (ihx id s _ a w _ (fun p hp => hL p (.inl hp)) (fun p hp => hS p (.inl hp)) h hA fun e s' a w hk hA => ?_)
    cases e with
    | normal => exact ihy id s' K a w Q (fun p hp => hL p (.inr hp)) (fun p hp => hS p (.inr hp)) hk hA hQ
    | ret => exact hQ .ret s' a w hk hA
    | exit i => exact hQ (.exit i) s' a w hk hA
  | cond c x y ihx ihy =>
    intro id s K a w Q hL hS h hA hQ
    simp only [loopsIn, List.mem_append] at hL
    simp only [spotsIn, List.mem_append] at hS
    have main : ∀ (s : S) (K : Ex → S → Option (List DVal)), exec1 P C env L id (.cond c x y) s K = some r → Abs B0 F0 w0 s a w → (∀ e s' a w, K e s' = some r → Abs B0 F0 w0 s' a w → Q e.exit' a w) → (Code.cond c x y).wp P Q a w := by
      intro s K h hA hQ
      simp only [exec1] at h
      split at h <;> try (cases h; done)
      rename_i t e
      obtain ⟨F, L, B, hC⟩ := hA.core
      have hc := hC.fr.eval c
      rw [e] at hc
      refine wp_cond (relD_bool.1 hc) ?_
      cases t with
      | true => exact ihx id s K a w Q (fun p hp => hL p (.inl hp)) (fun p hp => hS p (.inr (.inl hp))) h hA hQ
      | false => exact ihy id s K a w Q (fun p hp => hL p (.inr hp)) (fun p hp => hS p (.inr (.inr hp))) h hA hQ
    simp only [exec] at h
    split at h
    · rename_i f hf
      cases ht : tagOf (.cond c x y) with
      | none => rw [ht] at hf; cases hf
      | some n =>
        rw [ht] at hf h
        exact main _ _ (hS (3000000 + n, id, .cond c x y) (.inl (by rw [ht]; simp)) f hf _ _ _ h) (trim_abs hA) fun e s' a w hk hA => hQ e _ a w hk (trim_abs hA)
    · exact main s K h hA hQ
  | block bid c ih =>
    intro id s K a w Q hL hS h hA hQ
    simp only [loopsIn] at hL
    simp only [spotsIn, List.mem_cons, forall_eq_or_imp] at hS
    have main : ∀ (s : S) (K : Ex → S → Option (List DVal)), exec1 P C env L id (.block bid c) s K = some r → Abs B0 F0 w0 s a w → (∀ e s' a w, K e s' = some r → Abs B0 F0 w0 s' a w → Q e.exit' a w) → (Code.block bid c).wp P Q a w := by
      intro s K h hA hQ
      simp only [exec1] at h
      refine wp_block (ih bid s _ a w _ hL hS.2 h hA fun e s' a w hk hA => ?_)
      cases e with
      | normal => exact hQ .normal s' a w hk hA
      | ret => exact hQ .ret s' a w hk hA
      | exit i =>
        simp only at hk
        show Exit.inBlock bid Q (.exit i) a w
        simp only [Exit.inBlock]
        split at hk
        · rename_i e; rw [if_pos e]; exact hQ .normal s' a w hk hA
        · rename_i e; rw [if_neg e]; exact hQ (.exit i) s' a w hk hA
    simp only [exec] at h
    split at h
    · rename_i f hf
      exact main _ _ (hS.1 f hf _ _ _ h) (trim_abs hA) fun e s' a w hk hA => hQ e _ a w hk (trim_abs hA)
    · exact main s K h hA hQ
  | loop c ih =>
    intro id s K a w Q hL hS h hA hQ
    simp only [exec] at h
    simp only [loopsIn, List.mem_cons, forall_eq_or_imp] at hL
    simp only [spotsIn] at hS
    split at h <;> try (cases h; done)
    rename_i f hf
    obtain ⟨n, hn⟩ := hL.1 f hf _ _ _ h
    refine wp_loop_rounds n ?_
    have key : ∀ (n : Nat) (s : S) (a : Act) (w : World), rounds (trim C id) (exec P C env L id c) n s (fun e s' => K e (trim C (id + 1000000) s')) = some r → Abs B0 F0 w0 s a w → Code.rounds P c Q n a w := by
      intro n
      induction n with
      | zero => intro s a w h _; simp [rounds] at h
      | succ n ihn =>
        intro s a w h hA
        simp only [rounds] at h
        rw [rounds_succ]
        refine ih id s _ a w _ hL.2 hS h hA fun e s' a w hk hA => ?_
        cases e with
        | normal => exact ihn _ a w hk (trim_abs hA)
        | ret => exact hQ .ret _ a w hk (trim_abs hA)
        | exit i => exact hQ (.exit i) _ a w hk (trim_abs hA)
    exact key n _ a w hn (trim_abs hA)
  | exit i => intro id s K a w Q hL hS h hA hQ; exact wp_exit (hQ (.exit i) s a w h hA)
  | ret => intro id s K a w Q hL hS h hA hQ; exact wp_ret (hQ .ret s a w h hA)
  | _ => intro id s K a w Q hL hS h hA hQ; simp [exec] at h

/-! ### Results -/
theorem mapM_run {f : ResultVar → Sem Value} {w : World} : ∀ (l : List ResultVar) (vs : List Value), l.length = vs.length → (∀ (i : Nat) (x : ResultVar) (v : Value), l[i]? = some x → vs[i]? = some v → (f x).run P w = .ok v w) → (l.mapM f).run P w = .ok vs w
  | [], [], _, _ => by simp
  | x :: l, v :: vs, hl, h => by
    have h1 := h 0 x v rfl rfl
    have h2 := mapM_run l vs (by simpa using hl) fun i x v hx hv => h (i + 1) x v (by simpa using hx) (by simpa using hv)
    simp [List.mapM_cons, h1, h2]

theorem resultsD_spec {s : S} {F : Nat → Nat → Prop} (hC : Core B0 F0 w0 s.st s.fr a w F L B) : ∀ (rs : List ResultVar) (ts : List TypeId) {F1 : Nat → Nat → Prop} {st1 : St} (h : Core B0 F0 w0 st1 s.fr a w F1 L B) (hfe : FE F s.st F1 st1) (ds : List DVal), resultsD P s rs ts = some ds →
    ∃ F2 st2 vs, Core B0 F0 w0 st2 s.fr a w F2 L B ∧ FE F1 st1 F2 st2 ∧ RelDs F2 w ds vs ∧ rs.length = vs.length ∧
      ∀ (i : Nat) (x : ResultVar) (v : Value), rs[i]? = some x → vs[i]? = some v → (match x with | .tmp t => pure (a.tmps.getD t undef) | .cell b t => do loadVar t (← asAddr (a.tmps.getD b undef)) : Sem Value).run P w = .ok v w := by
  intro rs
  induction rs with
  | nil =>
    intro ts F1 st1 h hfe ds hd
    cases ts with
    | nil =>
      simp only [resultsD, Option.some.injEq] at hd
      subst hd
      exact ⟨F1, st1, [], h, FE.refl .., .nil, rfl, by simp⟩
    | cons t ts => simp [resultsD] at hd
  | cons x rs ih =>
    intro ts F1 st1 h hfe ds hd
    have hat : ∀ t, RelV F w s.st L (resolve s.st (s.fr.getD t .any)).dv (a.tmps.getD t undef) ∧ Opd F w s.st L (resolve s.st (s.fr.getD t .any)) (a.tmps.getD t undef) := fun t => by
      have := hC.fr.opd (.tmp t)
      simp only [dval] at this
      have he : a.eval (.tmp t) = a.tmps.getD t undef := rfl
      rw [he] at this
      exact ⟨this.rel, this⟩
    cases x with
    | tmp t =>
      cases ts with
      | nil => simp [resultsD] at hd
      | cons T ts =>
        simp only [resultsD] at hd
        split at hd <;> try (cases hd; done)
        rename_i u hu
        split at hd <;> try (cases hd; done)
        rename_i d l1 ds' e1 e2
        cases hd
        obtain ⟨F2, c1, c2, c3, _⟩ := datumAs_spec h hfe hC.sim (hat t).2 e1
        obtain ⟨F3, st3, vs, k1, k2, k3, k4, k5⟩ := ih ts c1 (hfe.trans c2) ds' e2
        refine ⟨F3, st3, a.tmps.getD t undef :: vs, k1, c2.trans k2, .cons (c3.keep k2.fm (fun _ _ _ => rfl)) k3, by simp [k4], fun i x v hx hv => ?_⟩
        cases i with
        | zero =>
          simp only [List.getElem?_cons_zero, Option.some.injEq] at hx hv
          subst hx hv
          rfl
        | succ i => exact k5 i x v (by simpa using hx) (by simpa using hv)
    | cell b T =>
      cases ts with
      | nil => simp [resultsD] at hd
      | cons T' ts =>
        simp only [resultsD] at hd
        split at hd <;> try (cases hd; done)
        rename_i k p o e0
        split at hd <;> try (cases hd; done)
        rename_i d ds' e1 e2
        split at hd <;> try (cases hd; done)
        rename_i hf
        simp only [Bool.and_eq_true] at hf
        cases hd
        have hx := (hat b).2
        rw [e0] at hx
        have hk := hx.ptr k p o rfl
        obtain ⟨g, oo, e3, hval, hloc⟩ := ptr_at hx.rel hk
        obtain ⟨cs, hr, hh⟩ := place_pure hC.sim hk hval hloc e1 hf.2
        have hl := Rel.length _ _ _ _ hr
        obtain ⟨v, hv⟩ := Val.mk_of hl
        obtain ⟨F3, st3, vs, k1, k2, k3, k4, k5⟩ := ih ts h hfe ds' e2
        have hfe' := hfe.trans k2
        refine ⟨F3, st3, v :: vs, k1, k2, .cons (RelD.keep hfe'.fm (fun _ _ _ => rfl) ⟨cs, hv, hr⟩) k3, by simp [k4], fun i x v' hx hv' => ?_⟩
        cases i with
        | zero =>
          simp only [List.getElem?_cons_zero, Option.some.injEq] at hx hv'
          subst hx hv'
          have := load_spec (P := P) hf.1 (fun j u hu => hh.cell j u hu) hl hv
          simp [e3, asAddr, this]
        | succ i => exact k5 i x v' (by simpa using hx) (by simpa using hv')

theorem resV_eq (vs : List Value) : (if h : vs.toArray.size = 1 then vs.toArray[0] else .tuple vs.toArray) = resV vs := by
  match vs with
  | [] => rfl
  | [v] => rfl
  | _ :: _ :: _ => rfl

theorem ArgsO.cases {ds : List DVal} {vs : List Value} {bs : List Nat} (h : ArgsO F w ds vs bs) :
    (∃ t x ds' v vs', ds = ⟨.box t, x⟩ :: ds' ∧ vs = v :: vs' ∧ Rel F w (.box t) x [v] bs ∧ RelDs F w ds' vs') ∨ (bs = [] ∧ RelDs F w ds vs ∧ ∀ t x ds', ds ≠ ⟨.box t, x⟩ :: ds') := by
  cases ds with
  | nil => exact .inr ⟨h.1, h.2, fun _ _ _ e => by cases e⟩
  | cons d ds =>
    obtain ⟨t, x⟩ := d
    by_cases hb : ∃ u, t = .box u
    · obtain ⟨u, rfl⟩ := hb
      cases vs with
      | nil => have := h.2; cases this
      | cons v vs => exact .inl ⟨u, x, ds, v, vs, rfl, rfl, h.1, h.2⟩
    · refine .inr ⟨?_, ?_, fun u y ds' e => ?_⟩
      · cases t <;> first | exact h.1 | exact absurd ⟨_, rfl⟩ hb
      · cases t <;> first | exact h.2 | exact absurd ⟨_, rfl⟩ hb
      · injection e with e _
        injection e with e _
        exact hb ⟨u, e⟩
theorem plain_args {ds : List DVal} (h : ∀ t x ds', ds ≠ ⟨.box t, x⟩ :: ds') : argFr ds = ds.map argDV ∧ argSt ds = [] ∧ ∀ (P : Program) (own : Bool) (fn : Func) (s : S), outD P own fn s ds = outR P own fn s := by
  cases ds with
  | nil => exact ⟨rfl, rfl, fun _ _ _ _ => rfl⟩
  | cons d ds =>
    obtain ⟨t, x⟩ := d
    cases t <;> first | exact ⟨rfl, rfl, fun _ _ _ _ => rfl⟩ | exact absurd rfl (h _ _ _)
theorem FR.init {L : Nat → RLoc} {fr0 : List DV} {vs : List Value} {n : Nat} (hg : GlobOk F w) (hl : fr0.length = vs.length) (h : ∀ i d, fr0[i]? = some d → RelV F w st L d (vs.getD i undef)) :
    FR F w st L (fr0 ++ List.replicate (n - vs.length) .und) { tmps := vs.toArray ++ Array.replicate (n - vs.toArray.size) undef, defers := [] } := by
  refine ⟨by simp [hl], fun i d hd => ?_, hg⟩
  rw [Array.getD_eq_getD_getElem?]
  rcases Nat.lt_or_ge i fr0.length with hi | hi
  · rw [List.getElem?_append_left hi] at hd
    have := h i d hd
    rw [List.getD_eq_getElem?_getD] at this
    rw [Array.getElem?_append_left (by simpa [hl] using hi)]
    simpa using this
  · rw [List.getElem?_append_right hi, List.getElem?_replicate] at hd
    split at hd <;> try (cases hd; done)
    rename_i hi2
    cases hd
    rw [Array.getElem?_append_right (by simpa [hl] using hi), Array.getElem?_replicate]
    split <;> rfl
theorem argDV_rel {L : Nat → RLoc} {d : DVal} {v : Value} (h : RelD F w d v) : RelV F w st L (argDV d) v := by
  obtain ⟨t, x⟩ := d
  cases t <;> try exact h
  obtain ⟨cs, h1, h2⟩ := h
  obtain ⟨_, b, o, ms, e, h3, h4⟩ := h2
  simp only [Val, Ty.isAgg, Bool.false_eq_true, if_false] at h1
  rw [h1] at e
  exact ⟨b, o, ms, by simpa using e, h3, h4⟩
theorem RelDs.frame {L : Nat → RLoc} {ds : List DVal} {vs : List Value} (h : RelDs F w ds vs) : ∀ i d, (ds.map argDV)[i]? = some d → RelV F w st L d (vs.getD i undef) := by
  intro i d hd
  rw [List.getElem?_map, Option.map_eq_some_iff] at hd
  obtain ⟨d', hd', rfl⟩ := hd
  obtain ⟨u, hu, hr⟩ := h.at_ i d' hd'
  rw [List.getD_eq_getElem?_getD, hu]
  exact argDV_rel hr
theorem results_run {fn : Func} {a : Act} {w : World} {rvs : List Value} (k4 : fn.results.toList.length = rvs.length) (k5 : ∀ (i : Nat) (x : ResultVar) (v : Value), fn.results.toList[i]? = some x → rvs[i]? = some v → (match x with | .tmp t => pure (a.tmps.getD t undef) | .cell b t => do loadVar t (← asAddr (a.tmps.getD b undef)) : Sem Value).run P w = .ok v w) :
    (results fn a.tmps).run P w = .ok (resV rvs) w := by
  unfold results
  have := mapM_run (P := P) (w := w) fn.results.toList rvs k4 k5
  simp only [Array.mapM_eq_mapM_toList, Sem.run_bind, Sem.run_map, Sem.run_pure]
  refine (congrArg (fun r => (Result.andThen r fun (a : List Value) w' => Result.ok a.toArray w').andThen fun a w' => Result.ok (if h : a.size = 1 then a[0] else Value.tuple a) w') this).trans ?_
  exact congrArg (Result.ok · w) (resV_eq rvs)

theorem contract_of_body {L : Nat → Option Sum} {f : FuncId} {fn : Func} {ctr : Ctr} (hE : EnvOk P env) (hm : P.follows .mixedOrders = true) (hf : P.funcs[f]? = some fn) (hL : ∀ c, fn.body = some c → ∀ p ∈ loopsIn 0 c, SumOk P C env L p.1 p.2) (hS : ∀ c, fn.body = some c → ∀ p ∈ spotsIn 0 c, SpotOk P C env L p) (h : ∀ ds rs, (ctr.run ds).val = some rs → body P C env L fn ds = some rs) : Contract P f ctr := by
  intro ds rs hrs F w vs bs hF hglob hds hnd hth
  have hb := h ds rs hrs
  unfold body at hb
  cases hbody : fn.body with
  | none => rw [hbody] at hb; cases hb
  | some c =>
    rw [hbody] at hb
    simp only at hb
    refine calls_of_wp hf hbody ?_
    rcases hds.cases with ⟨t, x, ds', v, vs', rfl, rfl, hrel, hds'⟩ | ⟨rfl, hds', hne⟩
    · -- an object is handed in
      have hlen := hds'.length
      have hbs : ∀ b ∈ bs, b < w.heap.size := Rel.below _ _ _ _ hrel
      have hget : ∀ k ob, St.get k [(pinKey, (⟨.box t, x, true, 0⟩ : DObj))] = some ob → k = pinKey ∧ ob = ⟨.box t, x, true, 0⟩ := fun k ob hk => by
        simp only [St.get] at hk
        split at hk
        · rename_i e; cases hk; exact ⟨e.symm, rfl⟩
        · cases hk
      have hA : Abs ⟨w.heap.size, bs, some v⟩ F w ⟨(.ref pinKey :: ds'.map argDV) ++ List.replicate (fn.ntmps - (v :: vs').length) .und, [(pinKey, ⟨.box t, x, true, 0⟩)]⟩ { tmps := (v :: vs').toArray ++ Array.replicate (fn.ntmps - (v :: vs').toArray.size) undef, defers := [] } w := by
        refine ⟨⟨F, fun _ => .hdr v, fun k => if k = pinKey then bs else [], ⟨fun k ob hk => ?_, fun k ob hk => ?_, fun j k hjk hj hk => ?_, hF, fun k ob hk => ?_, fun v' ob hv hk => ?_⟩, FR.init hglob (by simp [hlen]) fun i d hd => ?_, fun _ _ h => h, fun _ _ h => .inl h⟩, Below.refl _ _, Nat.le_refl _, rfl⟩
        · obtain ⟨rfl, rfl⟩ := hget k ob hk
          rw [if_pos rfl]
          exact ⟨hnd, hrel⟩
        · obtain ⟨rfl, rfl⟩ := hget k ob hk
          rw [if_pos rfl]
          exact hth
        · obtain ⟨o1, h1⟩ := Option.isSome_iff_exists.1 hj
          obtain ⟨o2, h2⟩ := Option.isSome_iff_exists.1 hk
          exact absurd ((hget j o1 h1).1.trans (hget k o2 h2).1.symm) hjk
        · obtain ⟨rfl, rfl⟩ := hget k ob hk
          rw [if_pos rfl]
          exact fun b hb => .inr hb
        · simp only [Option.some.injEq] at hv
          rw [hv]
        · cases i with
          | zero =>
            simp only [List.getElem?_cons_zero, Option.some.injEq] at hd
            subst hd
            exact ⟨⟨.box t, x, true, 0⟩, by simp [St.get], rfl, rfl⟩
          | succ i => exact hds'.frame i d (by simpa using hd)
      have hlen2 : (v :: vs').length = (⟨.box t, x⟩ :: ds' : List DVal).length := by simp [hlen]
      rw [hlen2] at hA
      refine exec_wp hE hm c 0 _ _ _ _ _ (hL c hbody) (hS c hbody) hb hA fun e s a w' hk hA' => ?_
      have hres : outD P C.ownR fn s (⟨.box t, x⟩ :: ds') = some rs ∧ (e.exit' = .normal ∨ e.exit' = .ret) := by
        cases e with
        | exit i => simp at hk
        | normal => exact ⟨hk, .inl rfl⟩
        | ret => exact ⟨hk, .inr rfl⟩
      obtain ⟨hres, he⟩ := hres
      obtain ⟨F1, L, B, hC⟩ := hA'.core
      simp only [outD] at hres
      split at hres <;> try (cases hres; done)
      rename_i t2 x2 z hpin
      split at hres <;> try (cases hres; done)
      rename_i ht
      subst ht
      obtain ⟨rs', hres', rfl⟩ := Option.map_eq_some_iff.1 hres
      obtain ⟨F2, st2, rvs, k1, k2, k3, k4, k5⟩ := resultsD_spec hC _ _ hC (FE.refl ..) _ hres'
      have hrun := results_run (P := P) (a := a) k4 k5
      obtain ⟨z', hp2⟩ := k2.get pinKey _ _ _ _ hpin
      have hob := k1.sim.obj pinKey _ hp2
      rw [k1.sim.pin v _ rfl hp2] at hob
      have hpost : a.defers = [] ∧ ∃ u, (results fn a.tmps).run P w' = .ok u w' ∧ ∃ F' rvs' bs', Ending.returned u = .returned (resV rvs') ∧ NewO bs w w' ∧ (∀ b j, F b j → F' b j) ∧ (∀ b j, F' b j → F b j ∨ b ∈ bs ∨ (w.heap.size ≤ b ∧ b < w'.heap.size)) ∧
          ResO F' w' (⟨.box t2, x⟩ :: ds') (v :: vs') (⟨.box t2, x2⟩ :: rs') rvs' bs' ∧ bs'.Nodup ∧ (∀ b ∈ bs', b ∈ bs ∨ w.heap.size ≤ b) ∧ ∀ b ∈ bs', ∀ j, ¬ F' b j := by
        refine ⟨k1.defers, _, hrun, F2, rvs, B pinKey, rfl, ⟨k1.below.os, k1.below.tape, k1.below.output, k1.below.size, fun b hb ho => k1.below.block b hb ho⟩, k1.lo, fun b j hb => ?_, ⟨x2, rs', rfl, hob.2, k3⟩, hob.1, fun b hb => ?_, k1.sim.thaw pinKey _ hp2⟩
        · rcases k1.hi b j hb with h | h | h
          · exact .inl h
          · exact .inr (.inr ⟨h, k1.sim.froz b j hb⟩)
          · exact .inr (.inl h)
        · rcases k1.sim.own pinKey _ hp2 b hb with h | h
          · exact .inr h
          · exact .inl h
      rcases he with he | he <;> rw [he] <;> exact hpost
    · obtain ⟨e1, e2, e3⟩ := plain_args hne
      rw [e1, e2] at hb
      have hlen := hds'.length
      have hA : Abs ⟨w.heap.size, [], none⟩ F w ⟨ds.map argDV ++ List.replicate (fn.ntmps - vs.length) .und, []⟩ { tmps := vs.toArray ++ Array.replicate (fn.ntmps - vs.toArray.size) undef, defers := [] } w :=
        ⟨⟨F, fun _ => .mem 0 0, fun _ => [], ⟨by simp [St.get], by simp [St.get], by simp [St.get], hF, by simp [St.get], by simp⟩, FR.init hglob (by simp [hlen]) hds'.frame, fun _ _ h => h, fun _ _ h => .inl h⟩, Below.refl _ _, Nat.le_refl _, rfl⟩
      rw [hlen] at hA
      refine exec_wp hE hm c 0 _ _ _ _ _ (hL c hbody) (hS c hbody) hb hA fun e s a w' hk hA' => ?_
      have hres : outR P C.ownR fn s = some rs ∧ (e.exit' = .normal ∨ e.exit' = .ret) := by
        cases e with
        | exit i => simp at hk
        | normal => exact ⟨by rw [← e3]; exact hk, .inl rfl⟩
        | ret => exact ⟨by rw [← e3]; exact hk, .inr rfl⟩
      obtain ⟨hres, he⟩ := hres
      obtain ⟨F1, L, B, hC⟩ := hA'.core
      have hro : ∀ {F' : Nat → Nat → Prop} {rvs : List Value} {bs' : List Nat}, ResP F' w' rs rvs bs' → ResO F' w' ds vs rs rvs bs' := fun {F' rvs bs'} hr => by
        cases hds' with
        | nil => exact hr
        | @cons d ds v vs h1 h2 =>
          obtain ⟨t, x⟩ := d
          cases t <;> first | exact hr | exact absurd h1 relD_box
      have fin : ∀ (F2 : Nat → Nat → Prop) (rvs : List Value) (bs' : List Nat), (results fn a.tmps).run P w' = .ok (resV rvs) w' → (∀ b j, F b j → F2 b j) → (∀ b j, F2 b j → F b j ∨ (w.heap.size ≤ b ∧ b < w'.heap.size)) → ResP F2 w' rs rvs bs' → bs'.Nodup → (∀ b ∈ bs', w.heap.size ≤ b) → (∀ b ∈ bs', ∀ j, ¬ F2 b j) →
          a.defers = [] ∧ ∃ u, (results fn a.tmps).run P w' = .ok u w' ∧ ∃ F' rvs' bs', Ending.returned u = .returned (resV rvs') ∧ NewO [] w w' ∧ (∀ b j, F b j → F' b j) ∧ (∀ b j, F' b j → F b j ∨ b ∈ ([] : List Nat) ∨ (w.heap.size ≤ b ∧ b < w'.heap.size)) ∧
          ResO F' w' ds vs rs rvs' bs' ∧ bs'.Nodup ∧ (∀ b ∈ bs', b ∈ ([] : List Nat) ∨ w.heap.size ≤ b) ∧ ∀ b ∈ bs', ∀ j, ¬ F' b j := fun F2 rvs bs' hrun hlo hhi hr h1 h2 h3 =>
        ⟨hC.defers, _, hrun, F2, rvs, bs', rfl, ⟨hC.below.os, hC.below.tape, hC.below.output, hC.below.size, fun b hb ho => hC.below.block b hb ho⟩, hlo, fun b j hb => (hhi b j hb).imp_right .inr, hro hr, h1, fun b hb => .inr (h2 b hb), h3⟩
      have data : resultsD P s fn.results.toList fn.resultTypes.toList = some rs → a.defers = [] ∧ ∃ u, (results fn a.tmps).run P w' = .ok u w' ∧ ∃ F' rvs' bs', Ending.returned u = .returned (resV rvs') ∧ NewO [] w w' ∧ (∀ b j, F b j → F' b j) ∧ (∀ b j, F' b j → F b j ∨ b ∈ ([] : List Nat) ∨ (w.heap.size ≤ b ∧ b < w'.heap.size)) ∧
          ResO F' w' ds vs rs rvs' bs' ∧ bs'.Nodup ∧ (∀ b ∈ bs', b ∈ ([] : List Nat) ∨ w.heap.size ≤ b) ∧ ∀ b ∈ bs', ∀ j, ¬ F' b j := fun hres => by
        obtain ⟨F2, st2, rvs, k1, k2, k3, k4, k5⟩ := resultsD_spec hC _ _ hC (FE.refl ..) _ hres
        refine fin F2 rvs [] (results_run (P := P) (a := a) k4 k5) k1.lo (fun b j hb => ?_) (.inl ⟨rfl, k3⟩) .nil (by simp) (by simp)
        rcases k1.hi b j hb with h | h | h
        · exact .inl h
        · exact .inr ⟨h, k1.sim.froz b j hb⟩
        · cases h
      have hpost : a.defers = [] ∧ ∃ u, (results fn a.tmps).run P w' = .ok u w' ∧ ∃ F' rvs' bs', Ending.returned u = .returned (resV rvs') ∧ NewO [] w w' ∧ (∀ b j, F b j → F' b j) ∧ (∀ b j, F' b j → F b j ∨ b ∈ ([] : List Nat) ∨ (w.heap.size ≤ b ∧ b < w'.heap.size)) ∧
          ResO F' w' ds vs rs rvs' bs' ∧ bs'.Nodup ∧ (∀ b ∈ bs', b ∈ ([] : List Nat) ∨ w.heap.size ≤ b) ∧ ∀ b ∈ bs', ∀ j, ¬ F' b j := by
        unfold outR at hres
        split at hres
        · rename_i tt hrt
          split at hres
          · rename_i k u x z hr
            cases hres
            have ho : Opd F1 w' s.st L (.ref k ⟨.box u, x, true, z⟩) (a.tmps.getD tt undef) := by
              rw [← hr]
              exact hC.fr.opd (.tmp tt)
            have hk2 := ho.ref k _ rfl
            obtain ⟨ob, _, _, hLk⟩ := ho.rel
            have hob := hC.sim.obj k _ hk2
            rw [hLk] at hob
            refine fin F1 [a.tmps.getD tt undef] (B k) (results_run (P := P) (a := a) (by rw [hrt]; rfl) fun i x v hx hv => ?_) hC.lo (fun b j hb => ?_) (.inr (.inl ⟨u, x, _, rfl, rfl, hob.2⟩)) hob.1 (fun b hb => ?_) (hC.sim.thaw k _ hk2)
            · rw [hrt] at hx
              cases i with
              | zero =>
                simp only [List.getElem?_cons_zero, Option.some.injEq] at hx hv
                subst hx hv
                rfl
              | succ i => simp at hx
            · rcases hC.hi b j hb with h | h | h
              · exact .inl h
              · exact .inr ⟨h, hC.sim.froz b j hb⟩
              · cases h
            · rcases hC.sim.own k _ hk2 b hb with h | h
              · exact h
              · cases h
          · rename_i k u x hr
            split at hres
            · cases hres
              have ho : Opd F1 w' s.st L (.ref k ⟨.own u, x, true, 0⟩) (a.tmps.getD tt undef) := by
                rw [← hr]
                exact hC.fr.opd (.tmp tt)
              have hk2 := ho.ref k _ rfl
              obtain ⟨ob, _, _, hLk⟩ := ho.rel
              have hob := hC.sim.obj k _ hk2
              rw [hLk] at hob
              have hnd : (B k).Nodup := by
                rcases own_open hob.1.1 hob.2 with ⟨_, _, e⟩ | ⟨g, _, _, _, _, e, _⟩ <;> rw [e] <;> simp
              refine fin F1 [a.tmps.getD tt undef] (B k) (results_run (P := P) (a := a) (by rw [hrt]; rfl) fun i x v hx hv => ?_) hC.lo (fun b j hb => ?_) (.inr (.inr ⟨u, x, _, hob.1.1, rfl, rfl, hob.2⟩)) hnd (fun b hb => ?_) (fun b hb j hj => ?_)
              · rw [hrt] at hx
                cases i with
                | zero =>
                  simp only [List.getElem?_cons_zero, Option.some.injEq] at hx hv
                  subst hx hv
                  rfl
                | succ i => simp at hx
              · rcases hC.hi b j hb with h | h | h
                · exact .inl h
                · exact .inr ⟨h, hC.sim.froz b j hb⟩
                · cases h
              · rcases hC.sim.own k _ hk2 b hb with h | h
                · exact h
                · cases h
              · have := hC.sim.thaw k _ hk2 b hb j hj
                omega
            · exact data hres
          · exact data hres
        · exact data hres
      rcases he with he | he <;> rw [he] <;> exact hpost
end Go.D

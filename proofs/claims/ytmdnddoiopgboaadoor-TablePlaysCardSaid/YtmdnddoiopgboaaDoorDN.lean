/- The abstract machine D, part N: its operations are the machine's, continued. -/
import Derived.Test.YtmdnddoiopgboaaDoorDM
namespace Go.D
set_option linter.unusedSimpArgs false
set_option linter.unusedVariables false

variable {F F' : Nat → Nat → Prop} {w w' w2 : World} {P : Program} {st st' : St} {L L' : Nat → RLoc} {B B' : Nat → List Nat} {B0 : Base} {F0 : Nat → Nat → Prop} {w0 : World}
variable {fr : List DV} {a : Act} {C : Cfg} {env : Env}

theorem Core.updVal {s : S} {l : List (Nat × DObj)} {dst : Option Tmp} {d : DV} {v : Value} {F2 : Nat → Nat → Prop} (h : Core B0 F0 w0 (putAll l s.st) s.fr a w F2 L B) (hv : RelV F2 w (putAll l s.st) L d v) :
    Abs B0 F0 w0 ⟨setFr s.fr dst d, putAll l s.st⟩ (a.put dst v) w := (h.value hv).abs

theorem getElem_ofBytes (s : ByteArray) (i : Nat) (h : i < s.size) : (ofBytes s).getD i 0 = ((s[i]'h).toNat : Int) := by
  unfold ofBytes
  rw [List.getD_eq_getElem?_getD, List.getElem?_map, Array.getElem?_toList, Array.getElem?_eq_getElem h]
  rfl

theorem op_index {s : S} {o : Oper} {T : TypeId} {x y : Operand} {ve : DV × Eff} {s' : S} (hC : Core B0 F0 w0 s.st s.fr a w F L B) (ho : o.op = .index T x y) (h : (dop P C env o (fun x => resolve s.st (dval s.fr x))).val = some ve) (ha : apply o.dst s ve = some s') :
    Does P o a w fun rv w' => Abs B0 F0 w0 s' (a.put o.dst rv) w' := by
  have hx := hC.fr.opd x
  have hy := hC.fr.opd y
  have hop : execOp a.eval o = (do pure (Next.value (← Instr.index T (a.eval x) (a.eval y))) : Sem Next) := by simp [execOp, ho]
  simp only [dop, ho] at h
  split at h <;> try (cases h; done)
  rename_i kk i ei
  rw [ei] at hy
  have hi := relD_int.1 hy.rel
  rw [hi] at hop
  split at h <;> try (cases h; done)
  · rename_i n e m t xs hu e1
    rw [e1] at hx
    split at h <;> try (cases h; done)
    rename_i hc
    simp only [Bool.and_eq_true, decide_eq_true_eq] at hc
    obtain ⟨rfl, hfit⟩ := hc
    simp only [Cmd.val_guard, Cmd.val_ret] at h
    split at h <;> try (cases h; done)
    rename_i hb
    simp only [Bool.and_eq_true, decide_eq_true_eq] at hb
    simp only [Option.some.injEq] at h
    subst h
    simp only [fits, Bool.and_eq_true, beq_iff_eq] at hfit
    obtain ⟨cs, hv, hn, hr⟩ := hx.rel
    have hlt : i.toNat < List.length xs := by rw [show List.length xs = m from hn]; exact idx_ok hb.1 hb.2
    obtain ⟨cl, c, cr, bl, b', br, m1, m2, m3, m4, m5, m6⟩ := RelL.split (sz := t.size) (fun x c b h => Rel.length t x c b h) hr i.toNat hlt
    have : b' = [] := by
      have := m2.symm
      simp at this
      exact this.2.1
    subst this
    obtain ⟨rv, hrv⟩ := Val.mk_of (t := t) (c := c) (Rel.length _ _ _ _ m4)
    refine .of_value hC ha hop (rv := rv) ?_ ⟨c, hrv, by rw [List.getD_eq_getElem?_getD, List.getElem?_eq_getElem hlt]; exact m4⟩
    rw [Val.agg (t := .arr m t) rfl hv]
    simp only [Instr.index, asIntOf, Sem.run_bind, Sem.run_pure, Result.andThen_ok, run_underlying hu, Sem.run_ite]
    rw [if_pos hb]
    simp only [run_sizeP hfit.2, Result.andThen_ok]
    exact run_part e cs _ t c rv (by simp [sized, hfit.2]) hfit.1 hrv (Rel.length _ _ _ _ m4) ⟨cl, cr, m1, m3⟩
  · rename_i s1 hu e1
    rw [e1] at hx
    have hv := relD_str.1 hx.rel
    simp only [Cmd.val_guard, Cmd.val_ret] at h
    split at h <;> try (cases h; done)
    rename_i hb
    simp only [Bool.and_eq_true, decide_eq_true_eq] at hb
    simp only [Option.some.injEq] at h
    subst h
    have hlt : i.toNat < ByteArray.size s1 := idx_ok hb.1 hb.2
    refine .of_value hC ha hop (rv := .int .u8 ((s1[i.toNat]'hlt).toNat : Int)) ?_ (relD_int.2 (by rw [getElem_ofBytes s1 _ hlt]))
    rw [hv]
    have hg : s1[i.toNat]? = some (s1[i.toNat]'hlt) := getElem?_pos s1 i.toNat hlt
    simp only [Instr.index, asIntOf, Sem.run_bind, Sem.run_pure, Result.andThen_ok, run_underlying hu]
    rw [if_pos hb.1, hg]
    rfl

theorem RelL.flat {t : Ty} (ih : ∀ (x : t.den) (cs : List Value), Rel F w t x cs [] → Rel F' w' t x cs []) {xs : List t.den} {cs : List Value} (h : RelL (Rel F w t) xs cs []) : RelL (Rel F' w' t) xs cs [] :=
  h.mono_mem fun x c b hb hr => by
    have : b = [] := List.eq_nil_iff_forall_not_mem.2 fun i hi => by simpa using hb i hi
    subst this
    exact ih x c hr
theorem Rel.flat : ∀ (t : Ty) (x : t.den) (cs : List Value), t.flat = true → Rel F w t x cs [] → Rel F' w' t x cs [] := by
  intro t
  induction t with
  | int => intro x cs _ h; exact h
  | bool => intro x cs _ h; exact h
  | str => intro x cs _ h; exact h
  | unit => intro x cs _ h; exact h
  | pair a b iha ihb =>
    rintro x cs hf ⟨c1, c2, b1, b2, e1, e2, h1, h2⟩
    simp only [Ty.flat, Bool.and_eq_true] at hf
    obtain ⟨rfl, rfl⟩ : b1 = [] ∧ b2 = [] := by simpa using e2.symm
    exact ⟨c1, c2, [], [], e1, rfl, iha _ _ hf.1 h1, ihb _ _ hf.2 h2⟩
  | arr n t ih => rintro xs cs hf ⟨hn, h⟩; exact ⟨hn, h.flat fun x c h => ih x c hf h⟩
  | sl t _ => intro x cs hf; simp [Ty.flat] at hf
  | own t _ => intro x cs hf; simp [Ty.flat] at hf
  | box t _ => intro x cs hf; simp [Ty.flat] at hf
  | pt t _ => intro x cs hf; simp [Ty.flat] at hf
theorem own_flat {t : Ty} {xs : List t.den} {v : Value} {bs : List Nat} (hf : t.flat = true) (hp : t.pure = true) (h : Rel F w (.own t) xs [v] bs) : Rel F' w (.own t) xs [v] bs := by
  rcases own_open hp h with ⟨h1, h2, h3⟩ | ⟨g, cap, cur, tag, h1, h2, h3, h4, h5, h6, h7⟩
  · exact .inl ⟨h1, by rw [h2], h3⟩
  · exact .inr ⟨g, cap, cur, tag, [], by rw [h1], h2, h3, h4, h5, h6, (h7.2).flat fun x c h => Rel.flat t x c hf h⟩
theorem RelDs.flat {ds : List DVal} {vs : List Value} (h : RelDs F w ds vs) (hf : ds.all (fun d => d.t.flat) = true) : RelDs F' w' ds vs := by
  induction h with
  | nil => exact .nil
  | cons h _ ih =>
    simp only [List.all_cons, Bool.and_eq_true] at hf
    obtain ⟨cs, h1, h2⟩ := h
    exact .cons ⟨cs, h1, Rel.flat _ _ _ hf.1 h2⟩ (ih hf.2)
theorem resV_ne {vs : List Value} (h : vs.length ≠ 1) : resV vs = .tuple vs.toArray := by
  match vs, h with
  | [], _ => rfl
  | [v], h => exact absurd rfl h
  | _ :: _ :: _, _ => rfl
theorem RelDs.tup {rs : List DVal} {rvs : List Value} (h : RelDs F w rs rvs) (hn : rs.length ≠ 1) : RelV F w st L (.tup rs) (resV rvs) := by
  rw [resV_ne (by rw [h.length]; exact hn)]
  exact ⟨_, rfl, by simpa using h.length, fun i d hd => by simpa using h.at_ i d hd⟩

theorem args_opd {s : S} {a : Act} (hC : Core B0 F0 w0 s.st s.fr a w F L B) (args : List Operand) : ∀ (i : Nat) (r : RV) (v : Value), (args.map fun x => resolve s.st (dval s.fr x))[i]? = some r → (args.map a.eval)[i]? = some v → Opd F w s.st L r v := by
  intro i r v h1 h2
  rw [List.getElem?_map, Option.map_eq_some_iff] at h1 h2
  obtain ⟨x, hx1, rfl⟩ := h1
  obtain ⟨y, hy1, rfl⟩ := h2
  rw [hx1] at hy1
  cases hy1
  exact hC.fr.opd x
theorem resDV_rel {rs : List DVal} {rvs : List Value} (h : RelDs F w rs rvs) : RelV F w st L (resDV rs) (resV rvs) := by
  cases h with
  | nil => exact ⟨_, rfl, by simp, fun i d hd => by simp at hd⟩
  | @cons d ds v vs h1 h2 =>
    cases h2 with
    | nil => exact h1
    | @cons d2 ds2 v2 vs2 h3 h4 =>
      have h : RelDs F w (d :: d2 :: ds2) (v :: v2 :: vs2) := .cons h1 (.cons h3 h4)
      have e : resDV (d :: d2 :: ds2) = .tup (d :: d2 :: ds2) := rfl
      rw [e]
      exact h.tup (by simp)
/-- a call that is handed data alone -/
theorem op_callP {s : S} {o : Oper} {f : FuncId} {args : Array Operand} {ats : Array TypeId} {ve : DV × Eff} {s' : S} {c : Ctr} (hct0 : Contract P f c) (hrun : (execOp a.eval o).run P w = .ok (.enter f (args.map a.eval)) w) (hC : Core B0 F0 w0 s.st s.fr a w F L B)
    (h : (dcallP c (args.toList.map fun x => resolve s.st (dval s.fr x))).val = some ve) (ha : apply o.dst s ve = some s') : Does P o a w fun rv w' => Abs B0 F0 w0 s' (a.put o.dst rv) w' := by
  unfold dcallP at h
  split at h <;> try (cases h; done)
  rename_i ds l hargs
  rw [Cmd.val_bind, Option.bind_eq_some_iff] at h
  obtain ⟨rs, hrs, h⟩ := h
  obtain ⟨F2, c1, c2, c3⟩ := argsAs_spec hC.sim c.ins (args.toList.map fun x => resolve s.st (dval s.fr x)) (args.toList.map a.eval) hC (FE.refl ..) (by rw [List.length_map, List.length_map]) (args_opd hC args.toList) hargs
  have hct := hct0 ds rs hrs F2 w (args.toList.map a.eval) [] c1.sim.froz c1.fr.glob c3.args .nil (by simp)
  have hargs2 : (args.toList.map a.eval).toArray = args.map a.eval := by rw [← Array.toList_map, Array.toArray_toList]
  rw [hargs2] at hct
  refine .enter f (args.map a.eval) w hrun (hct.mono fun e w' hh => ?_)
  obtain ⟨F3, rvs, bs', he, hn, hm1, hm2, hres, hnd, hbs, hthaw⟩ := hh
  have hn := hn.new
  have hm2 : ∀ b j, F3 b j → F2 b j ∨ (w.heap.size ≤ b ∧ b < w'.heap.size) := fun b j hb => by
    rcases hm2 b j hb with h | h | h
    · exact .inl h
    · cases h
    · exact .inr h
  refine ⟨resV rvs, he, ?_⟩
  have plain : RelDs F3 w' rs rvs → ve = (resDV rs, callEff rs l) → Abs B0 F0 w0 s' (a.put o.dst (resV rvs)) w' := fun hres hve => by
    subst hve
    unfold callEff at ha
    split at ha
    · rename_i hflat
      simp only [apply, Option.some.injEq] at ha
      subst ha
      exact ((hC.new hn (F' := F) (fun _ _ h => h) (fun _ _ h => .inl h)).value (resDV_rel (hres.flat hflat))).abs
    · simp only [apply, Option.some.injEq] at ha
      subst ha
      exact ((c1.new hn hm1 hm2).value (resDV_rel hres)).abs
  have ownR : ∀ (u : Ty) (x : (Ty.own u).den) (v : Value), rs = [⟨.own u, x⟩] → rvs = [v] → Rel F3 w' (.own u) x [v] bs' → Abs B0 F0 w0 s' (a.put o.dst (resV rvs)) w' := by
    rintro u x v rfl rfl hrel
    simp only at h
    split at h <;> try (cases h; done)
    rename_i hl
    simp only [Bool.and_eq_true] at hl
    simp only [Cmd.val_ret, Option.some.injEq] at h
    subst h
    have hl2 : l = [] := by simpa using hl.1
    subst hl2
    simp only [apply] at ha
    split at ha <;> try (cases ha; done)
    rename_i dd hdst
    split at ha <;> try (cases ha; done)
    rename_i hdp
    simp only [Option.some.injEq] at ha
    subst ha
    rw [hdst]
    exact (c1.objF hn hm1 hm2 (d := dd) (ob := ⟨.own u, x, true, 0⟩) (rl := .hdr v) (bs := bs') ⟨⟨hl.2, Nat.zero_le _⟩, hrel⟩ (fun b hb => (hbs b hb).elim (fun h => by cases h) id) hthaw hdp (dv := .ref dd) (v := v) (fun st' L' h1 h2 => ⟨_, h1, rfl, h2⟩) rfl).abs
  rcases c3.res hres with ⟨hb0, hres⟩ | ⟨u, x, v, rfl, rfl, hrel⟩ | ⟨u, x, v, _, e1, e2, hrel⟩
  · split at h
    · rename_i u x
      cases hres with
      | cons h1 h2 => exact absurd h1 relD_box
    · cases hres with
      | @cons _ _ v vs h1 h2 =>
        cases h2
        obtain ⟨cs, hv, hr⟩ := h1
        simp only [Val, Ty.isAgg, Bool.false_eq_true, if_false] at hv
        subst hv hb0
        exact ownR _ _ v rfl rfl hr
    · simp only [Cmd.val_ret, Option.some.injEq] at h
      exact plain hres h.symm
  · simp only at h
    split at h <;> try (cases h; done)
    rename_i hl
    simp only [Cmd.val_ret, Option.some.injEq] at h
    subst h
    have hl : l = [] := by simpa using hl
    subst hl
    simp only [apply] at ha
    split at ha <;> try (cases ha; done)
    rename_i dd hdst
    split at ha <;> try (cases ha; done)
    rename_i hdp
    simp only [Option.some.injEq] at ha
    subst ha
    rw [hdst]
    exact (c1.objF hn hm1 hm2 (d := dd) (ob := ⟨.box u, x, true, 0⟩) (rl := .hdr v) (bs := bs') ⟨hnd, hrel⟩ (fun b hb => (hbs b hb).elim (fun h => by cases h) id) hthaw hdp (dv := .ref dd) (v := v) (fun st' L' h1 h2 => ⟨_, h1, rfl, h2⟩) rfl).abs
  · exact ownR u x v e1 e2 hrel
/-- a call whose first argument is an object that is handed over -/
theorem op_callB {s : S} {o : Oper} {f : FuncId} {args : Array Operand} {ats : Array TypeId} {ve : DV × Eff} {s' : S} {c : Ctr} {t : Ty} {ts : List Ty} (hct0 : Contract P f c) (hrun : (execOp a.eval o).run P w = .ok (.enter f (args.map a.eval)) w) (hC : Core B0 F0 w0 s.st s.fr a w F L B)
    (h : (dcallB c t ts (args.toList.map fun x => resolve s.st (dval s.fr x))).val = some ve) (ha : apply o.dst s ve = some s') : Does P o a w fun rv w' => Abs B0 F0 w0 s' (a.put o.dst rv) w' := by
  unfold dcallB at h
  split at h <;> try (cases h; done)
  rename_i k t' x z as hm
  split at h <;> try (cases h; done)
  rename_i ht
  subst ht
  split at h <;> try (cases h; done)
  rename_i ds l hargs
  rw [Cmd.val_bind, Option.bind_eq_some_iff] at h
  obtain ⟨rs, hrs, h⟩ := h
  split at h <;> try (cases h; done)
  rename_i t2 x2 rs'
  split at h <;> try (cases h; done)
  rename_i ht2
  subst ht2
  simp only [Cmd.val_ret, Option.some.injEq] at h
  subst h
  simp only [apply, Option.some.injEq] at ha
  subst ha
  -- the arguments
  obtain ⟨x0, xs, hxs, hx0, hxr⟩ : ∃ x0 xs, args.toList = x0 :: xs ∧ resolve s.st (dval s.fr x0) = .ref k ⟨.box t2, x, true, z⟩ ∧ (xs.map fun x => resolve s.st (dval s.fr x)) = as := by
    cases hl : args.toList with
    | nil => rw [hl] at hm; cases hm
    | cons x0 xs =>
      rw [hl] at hm
      simp only [List.map_cons, List.cons.injEq] at hm
      exact ⟨x0, xs, rfl, hm.1, hm.2⟩
  have ho := hC.fr.opd x0
  rw [hx0] at ho
  have hk := ho.ref k _ rfl
  obtain ⟨ob, f1, _, hL⟩ := ho.rel
  subst hxr
  obtain ⟨F2, c1, c2, c3⟩ := argsAs_spec hC.sim ts (xs.map fun x => resolve s.st (dval s.fr x)) (xs.map a.eval) hC (FE.refl ..) (by rw [List.length_map, List.length_map]) (args_opd hC xs) hargs
  obtain ⟨z', hk2⟩ := c2.get k _ _ _ _ hk
  have hob := c1.sim.obj k _ hk2
  rw [hL] at hob
  obtain ⟨hnd, hrel⟩ := hob
  have hth : ∀ b ∈ B k, ∀ j, ¬ F2 b j := c1.sim.thaw k _ hk2
  have hct := hct0 _ _ hrs F2 w (a.eval x0 :: xs.map a.eval) (B k) c1.sim.froz c1.fr.glob ⟨hrel, c3⟩ hnd hth
  have hargs2 : (a.eval x0 :: xs.map a.eval).toArray = args.map a.eval := by
    rw [← List.map_cons, ← hxs, ← Array.toList_map, Array.toArray_toList]
  rw [hargs2] at hct
  refine .enter f (args.map a.eval) w hrun (hct.mono fun e w' hh => ?_)
  obtain ⟨F3, rvs, bs', he, hn, hm1, hm2, hres, hnd', hbs, hthaw⟩ := hh
  refine ⟨resV rvs, he, ?_⟩
  obtain ⟨x', rs2, e1, hrel', hres⟩ := hres
  injection e1 with e1 e2
  injection e1 with _ e1
  subst e1 e2
  have hlt : ∀ j o, (putAll l s.st).get j = some o → ∀ b ∈ B j, b < w.heap.size := fun j o hj => (c1.sim.obj j o hj).lt
  have hcell : ∀ b j, F2 b j → w'.cell? ⟨b, j, none⟩ = w.cell? ⟨b, j, none⟩ := fun b j hF => cell_of_heap (hn.old b (c1.sim.froz b j hF) fun hb => hth b hb j hF)
  have hblk : ∀ j o, j ≠ k → (putAll l s.st).get j = some o → ∀ b ∈ B j, w'.heap[b]? = w.heap[b]? := fun j o hj hg b hb => hn.old b (hlt j o hg b hb) fun hb' => c1.sim.apart j k hj (by rw [hg]; rfl) (by rw [hk2]; rfl) b hb hb'
  have hput : putAll (l ++ [(k, ⟨.box t2, x2, true, 0⟩)]) s.st = (putAll l s.st).put k ⟨.box t2, x2, true, 0⟩ := by rw [putAll_append]; rfl
  have hget : ∀ j o, j ≠ k → ((putAll l s.st).put k ⟨.box t2, x2, true, 0⟩).get j = some o → (putAll l s.st).get j = some o := fun j o hj hg => by rwa [get_put_other _ hj] at hg
  have hsim : Sim B0 F3 w' ((putAll l s.st).put k ⟨.box t2, x2, true, 0⟩) L (fun j => if j = k then bs' else B j) := by
    refine ⟨fun j o hj => ?_, fun j o hj => ?_, fun i j hij hi hj => ?_, fun b j hb => ?_, fun j o hj => ?_, fun v o hv hj => ?_⟩
    · by_cases e : j = k
      · subst e
        rw [get_put_same] at hj
        cases hj
        rw [if_pos rfl, hL]
        exact ⟨hnd', hrel'⟩
      · rw [if_neg e]
        have hg := hget j o e hj
        exact (c1.sim.obj j o hg).keep hm1 hcell (hblk j o e hg)
    · by_cases e : j = k
      · subst e
        rw [get_put_same] at hj
        cases hj
        rw [if_pos rfl]
        exact hthaw
      · rw [if_neg e]
        have hg := hget j o e hj
        have ht' := c1.sim.thaw j o hg
        have hno : ∀ b ∈ B j, ∀ i, F3 b i → F2 b i := fun b hb i hF => by
          rcases hm2 b i hF with h | h | h
          · exact h
          · exact absurd h (c1.sim.apart j k e (by rw [hg]; rfl) (by rw [hk2]; rfl) b hb)
          · exact absurd h.1 (by have := hlt j o hg b hb; omega)
        obtain ⟨t', x', vir, z'⟩ := o
        cases vir <;> cases t' <;> simp only [Thaw] at ht' ⊢ <;> exact fun b hb i hF => ht' b hb i (hno b hb i hF)
    · by_cases e : i = k
      · subst e
        have e2 : j ≠ i := fun e => hij e.symm
        rw [if_pos rfl, if_neg e2]
        intro b hb hb2
        obtain ⟨o, ho'⟩ := Option.isSome_iff_exists.1 hj
        have hg := hget j o e2 ho'
        rcases hbs b hb with h | h
        · exact c1.sim.apart i j hij (by rw [hk2]; rfl) (by rw [hg]; rfl) b h hb2
        · have := hlt j o hg b hb2
          omega
      · by_cases e2 : j = k
        · subst e2
          rw [if_pos rfl, if_neg e]
          intro b hb hb2
          obtain ⟨o, ho'⟩ := Option.isSome_iff_exists.1 hi
          have hg := hget i o e ho'
          rcases hbs b hb2 with h | h
          · exact c1.sim.apart i j hij (by rw [hg]; rfl) (by rw [hk2]; rfl) b hb h
          · have := hlt i o hg b hb
            omega
        · rw [if_neg e, if_neg e2]
          exact c1.sim.apart i j hij (by rwa [get_put_other _ e] at hi) (by rwa [get_put_other _ e2] at hj)
    · rcases hm2 b j hb with h | h | h
      · exact Nat.lt_of_lt_of_le (c1.sim.froz b j h) hn.size
      · exact Nat.lt_of_lt_of_le (hlt k _ hk2 b h) hn.size
      · exact h.2
    · by_cases e : j = k
      · rw [if_pos e]
        intro b hb
        rcases hbs b hb with h | h
        · exact c1.sim.own k _ hk2 b h
        · exact .inl (Nat.le_trans c1.base h)
      · rw [if_neg e]
        exact c1.sim.own j o (hget j o e hj)
    · by_cases e : pinKey = k
      · exact c1.sim.pin v _ hv (by rw [e]; exact hk2)
      · exact c1.sim.pin v o hv (hget _ o e hj)
  have hext : ExtM F w s.st L F3 w' ((putAll l s.st).put k ⟨.box t2, x2, true, 0⟩) L [k] := by
    refine ⟨fun b j hb => hm1 _ _ (c2.fm _ _ hb), fun b j hb => hcell _ _ (c2.fm _ _ hb), fun j o hj hg => ?_, fun j o hj hg hvir => ?_⟩
    · have hne : j ≠ k := by simpa using hj
      obtain ⟨ot, ox, ov, oz⟩ := o
      obtain ⟨z2, hg2⟩ := c2.get j _ _ _ _ hg
      exact ⟨ox, z2, by rw [get_put_other _ hne]; exact hg2, rfl, fun _ h => h, (c1.sim.obj j _ hg2).stay fun _ => hblk j _ hne hg2⟩
    · have e : j = k := by simpa using hj
      subst e
      exact ⟨_, get_put_same _ _ _, rfl, rfl⟩
  have hbel : Below B0 w0 w' := c1.below.trans ⟨hn.os, hn.tape, hn.output, hn.size, fun b hb ho' => hn.old b (Nat.lt_of_lt_of_le hb c1.base) fun hb' => by
    rcases c1.sim.own k _ hk2 b hb' with h | h
    · omega
    · exact ho' h⟩
  have hcore : Core B0 F0 w0 ((putAll l s.st).put k ⟨.box t2, x2, true, 0⟩) (setFr (s.fr.map (dim [k])) o.dst (resDV rs')) (a.put o.dst (resV rvs)) w' F3 L (fun j => if j = k then bs' else B j) := by
    refine ⟨hsim, hC.fr.nextMut hext (fun _ _ => resDV_rel hres), fun b j hb => hm1 _ _ (c1.lo b j hb), fun b j hb => ?_, hbel, Nat.le_trans c1.base hn.size, by simp [hC.defers]⟩
    rcases hm2 b j hb with h | h | h
    · exact c1.hi b j h
    · exact .inr (c1.sim.own k _ hk2 b h)
    · exact .inr (.inl (Nat.le_trans c1.base h.1))
  have := hcore.abs (s := ⟨setFr (s.fr.map (dim [k])) o.dst (resDV rs'), (putAll l s.st).put k ⟨.box t2, x2, true, 0⟩⟩)
  rw [← hput] at this
  exact this
/-- what is lent is only read -/
theorem frz_rel (hF : ∀ b j, F b j → F' b j) : ∀ (t : Ty) (x : t.den) (cs : List Value) (bs : List Nat), frzOk t = true → Rel F w t x cs bs → (∀ b ∈ bs, ∀ j, F' b j) → Rel F' w (frz t) (frzD t x) cs [] := by
  have keep : ∀ (t : Ty) (x : t.den) (cs : List Value) (bs : List Nat), t.pure = true → Rel F w t x cs bs → Rel F' w t x cs [] := fun t x cs bs hp h => by
    have := Rel.pure _ _ _ _ hp h
    subst this
    exact Rel.keep hF (fun _ _ _ => rfl) _ _ _ _ (by simp) h
  intro t
  induction t with
  | int k => intro x cs bs hp h _; exact keep (.int k) x cs bs rfl h
  | bool => intro x cs bs hp h _; exact keep .bool x cs bs rfl h
  | str => intro x cs bs hp h _; exact keep .str x cs bs rfl h
  | unit => intro x cs bs hp h _; exact keep .unit x cs bs rfl h
  | pair a b iha ihb =>
    rintro x cs bs hp ⟨c1, c2, b1, b2, e1, e2, h1, h2⟩ hb
    simp only [frzOk, Bool.and_eq_true] at hp
    exact ⟨c1, c2, [], [], e1, rfl, iha _ _ _ hp.1 h1 (fun b hb' => hb b (by simp [e2, hb'])), ihb _ _ _ hp.2 h2 (fun b hb' => hb b (by simp [e2, hb']))⟩
  | arr n t _ => intro x cs bs hp h _; exact keep (.arr n t) x cs bs hp h
  | sl t _ => intro x cs bs hp h _; exact keep (.sl t) x cs bs hp h
  | own t _ =>
    intro xs cs bs hp h hb
    show Rel F' w (.sl t) xs cs []
    have hl : cs.length = 1 := Rel.length _ _ _ _ h
    obtain ⟨v, rfl⟩ : ∃ v, cs = [v] := by
      cases cs with
      | nil => simp at hl
      | cons u r => cases r with
        | nil => exact ⟨u, rfl⟩
        | cons => simp at hl
    rcases own_open hp h with ⟨e, e1, _⟩ | ⟨g, cap, cur, tag, e1, e2, e3, e4, e5, e6, e7⟩
    · subst e e1
      exact ⟨rfl, none, 0, [], rfl, Nat.le_refl _, .nil, fun h => absurd h (by simp)⟩
    · refine ⟨rfl, some ⟨g, 0, none⟩, cap, _, by rw [e1], e4, (e7.2).mono_mem fun x c b hs h' => Rel.keep hF (fun _ _ _ => rfl) _ _ _ _ (fun b' hb' => absurd (hs b' hb') (by simp)) h', fun _ => ⟨g, 0, rfl, fun j u hu => ⟨hb g (by simp [e2]) _, ?_⟩⟩⟩
      rw [Nat.zero_add, cell_of_row _ _ _ _ _ _ e3, ← Array.getElem?_toList]
      rw [List.getElem?_take] at hu
      split at hu
      · exact hu
      · cases hu
  | box t _ => intro x cs bs hp; simp [frzOk] at hp
  | pt t _ => intro x cs bs hp h _; exact keep (.pt t) x cs bs hp h
/-- a call that only reads the object that is its first argument -/
theorem op_callL {s : S} {o : Oper} {f : FuncId} {args : Array Operand} {ats : Array TypeId} {ve : DV × Eff} {s' : S} {c : Ctr} {u : Ty} {ts : List Ty} (hct0 : Contract P f c) (hrun : (execOp a.eval o).run P w = .ok (.enter f (args.map a.eval)) w) (hC : Core B0 F0 w0 s.st s.fr a w F L B)
    (h : (dcallL c u ts (args.toList.map fun x => resolve s.st (dval s.fr x))).val = some ve) (ha : apply o.dst s ve = some s') : Does P o a w fun rv w' => Abs B0 F0 w0 s' (a.put o.dst rv) w' := by
  unfold dcallL at h
  split at h
  · rename_i k t x z as hm
    split at h <;> try (cases h; done)
    rename_i hok
    simp only [Bool.and_eq_true, decide_eq_true_eq] at hok
    obtain ⟨rfl, hok⟩ := hok
    split at h <;> try (cases h; done)
    rename_i ds l hargs
    rw [Cmd.val_bind, Option.bind_eq_some_iff] at h
    obtain ⟨rs, hrs, h⟩ := h
    obtain ⟨x0, xs, hxs, hx0, hxr⟩ : ∃ x0 xs, args.toList = x0 :: xs ∧ resolve s.st (dval s.fr x0) = .ref k ⟨.box t, x, true, z⟩ ∧ (xs.map fun x => resolve s.st (dval s.fr x)) = as := by
      cases hl : args.toList with
      | nil => rw [hl] at hm; cases hm
      | cons x0 xs =>
        rw [hl] at hm
        simp only [List.map_cons, List.cons.injEq] at hm
        exact ⟨x0, xs, rfl, hm.1, hm.2⟩
    have ho := hC.fr.opd x0
    rw [hx0] at ho
    have hk := ho.ref k _ rfl
    obtain ⟨ob, f1, _, hL⟩ := ho.rel
    subst hxr
    obtain ⟨F2, c1, c2, c3⟩ := argsAs_spec hC.sim ts (xs.map fun x => resolve s.st (dval s.fr x)) (xs.map a.eval) hC (FE.refl ..) (by rw [List.length_map, List.length_map]) (args_opd hC xs) hargs
    obtain ⟨z', hk2⟩ := c2.get k _ _ _ _ hk
    have hob := c1.sim.obj k _ hk2
    rw [hL] at hob
    obtain ⟨_, g, cur, tag, bs', e1, e2, e3, e4⟩ := hob
    have e1 : a.eval x0 = .pointer (some ⟨g, 0, none⟩) := by simpa using e1
    have hF3 : ∀ b j, F2 b j → F2 b j ∨ b ∈ B k := fun b j h => .inl h
    have hpt : RelD (fun b j => F2 b j ∨ b ∈ B k) w ⟨.pt (frz t), frzD t x⟩ (a.eval x0) :=
      ⟨[a.eval x0], rfl, rfl, g, 0, cur.toList, by rw [e1], frz_rel hF3 t x _ _ hok e4 (fun b hb j => .inr (by simp [e2, hb])), fun j v hv => ⟨.inr (by simp [e2]), by
        rw [Nat.zero_add, cell_of_row _ _ _ _ _ _ e3, ← Array.getElem?_toList]
        exact hv⟩⟩
    have hds : RelDs (fun b j => F2 b j ∨ b ∈ B k) w (⟨.pt (frz t), frzD t x⟩ :: ds) (a.eval x0 :: xs.map a.eval) := .cons hpt (c3.keep hF3 (fun _ _ _ => rfl))
    have hct := hct0 _ _ hrs _ w _ [] (fun b j hb => hb.elim (c1.sim.froz b j) (fun hb => (c1.sim.obj k _ hk2).lt b hb)) (c1.fr.glob.keep (fun _ _ h => .inl h) (fun _ _ _ => rfl)) hds.args .nil (by simp)
    have hargs2 : (a.eval x0 :: xs.map a.eval).toArray = args.map a.eval := by
      rw [← List.map_cons, ← hxs, ← Array.toList_map, Array.toArray_toList]
    rw [hargs2] at hct
    refine .enter f (args.map a.eval) w hrun (hct.mono fun e w' hh => ?_)
    obtain ⟨F3, rvs, bs2, he, hn, hm1, hm2, hres, _, hbs, _⟩ := hh
    refine ⟨resV rvs, he, ?_⟩
    have ownR : ∀ (u : Ty) (y : (Ty.own u).den) (v : Value), rs = [⟨.own u, y⟩] → rvs = [v] → Rel F3 w' (.own u) y [v] bs2 → Abs B0 F0 w0 s' (a.put o.dst (resV rvs)) w' := by
      rintro u y v rfl rfl hrel
      simp only at h
      split at h <;> try (cases h; done)
      rename_i hl
      simp only [Bool.and_eq_true] at hl
      simp only [Cmd.val_ret, Option.some.injEq] at h
      subst h
      simp only [apply] at ha
      split at ha <;> try (cases ha; done)
      rename_i dd hdst
      split at ha <;> try (cases ha; done)
      rename_i hdp
      simp only [Option.some.injEq] at ha
      subst ha
      rw [hdst]
      have hb2 : ∀ b ∈ bs2, w.heap.size ≤ b := fun b hb => (hbs b hb).elim (fun h => by cases h) id
      exact (hC.objF hn.new (F' := F) (fun _ _ h => h) (fun _ _ h => .inl h) (d := dd) (ob := ⟨.own u, y, true, 0⟩) (rl := .hdr v) (bs := bs2) ⟨⟨hl.2, Nat.zero_le _⟩, own_flat hl.1 hl.2 hrel⟩ hb2 (fun b hb j hj => absurd (hC.sim.froz b j hj) (by have := hb2 b hb; omega)) hdp (dv := .ref dd) (v := v) (fun st' L' h1 h2 => ⟨_, h1, rfl, h2⟩) rfl).abs
    rcases hds.res hres with ⟨hb0, hres⟩ | ⟨u, y, v, rfl, _⟩ | ⟨u, y, v, _, e1, e2, hrel⟩
    · split at h
      · cases hres with
        | @cons _ _ v vs h1 h2 =>
          cases h2
          obtain ⟨cs, hv, hr⟩ := h1
          simp only [Val, Ty.isAgg, Bool.false_eq_true, if_false] at hv
          subst hv hb0
          exact ownR _ _ v rfl rfl hr
      · split at h <;> try (cases h; done)
        rename_i hflat
        simp only [Cmd.val_ret, Option.some.injEq] at h
        subst h
        simp only [apply, Option.some.injEq] at ha
        subst ha
        exact ((hC.new hn.new (F' := F) (fun _ _ h => h) (fun _ _ h => .inl h)).value (resDV_rel (hres.flat hflat))).abs
    · simp [Ty.flat] at h
    · exact ownR u y v e1 e2 hrel
  · exact op_callP (ats := ats) hct0 hrun hC h ha
/-- a call -/
theorem op_call {s : S} {o : Oper} {f : FuncId} {args : Array Operand} {ats : Array TypeId} {ve : DV × Eff} {s' : S} (hE : EnvOk P env) (hC : Core B0 F0 w0 s.st s.fr a w F L B) (ho : o.op = .call { callee := .value (.func f), args := args, argTypes := ats })
    (h : (dop P C env o (fun x => resolve s.st (dval s.fr x))).val = some ve) (ha : apply o.dst s ve = some s') : Does P o a w fun rv w' => Abs B0 F0 w0 s' (a.put o.dst rv) w' := by
  simp only [dop, ho, dcall] at h
  split at h <;> try (cases h; done)
  rename_i c hc
  obtain ⟨fn, hf1, hf2, hf3⟩ := hE.fn f c hc
  have hrun : (execOp a.eval o).run P w = .ok (.enter f (args.map a.eval)) w := by
    have hb : fn.body ≠ none := by intro e; rw [e] at hf3; cases hf3
    have hn : fn.name ≠ "runtime.NumGoroutine" := by simpa using hf2
    simp [execOp, ho, Act.eval, Go.resolve, Deferred.ofValue, invoke, callFunc, hf1, hn, hb]
  split at h
  · exact op_callB (ats := ats) (hE.ct f c hc) hrun hC h ha
  · exact op_callL (ats := ats) (hE.ct f c hc) hrun hC h ha
  · exact op_callP (ats := ats) (hE.ct f c hc) hrun hC h ha

theorem map_two {α β : Type} {f : α → β} {l : List α} {x y : β} (h : l.map f = [x, y]) : ∃ a b, l = [a, b] ∧ f a = x ∧ f b = y := by
  match l, h with
  | [a, b], h => simp at h; exact ⟨a, b, rfl, h.1, h.2⟩
theorem map_one {α β : Type} {f : α → β} {l : List α} {x : β} (h : l.map f = [x]) : ∃ a, l = [a] ∧ f a = x := by
  match l, h with
  | [a], h => simp at h; exact ⟨a, rfl, h⟩

theorem slV {t : Ty} {xs : List t.den} {v : Value} (h : RelD F w ⟨.sl t, xs⟩ v) : ∃ sa cap, v = .slice sa (List.length xs) cap := by
  obtain ⟨cs, hv, _, sa, cap, ms, e, _⟩ := h
  simp only [Val, Ty.isAgg, Bool.false_eq_true, if_false] at hv
  rw [hv] at e
  exact ⟨sa, cap, by simpa using e⟩
theorem refV (hs : Sim B0 F w st L B) {k : Nat} {t : Ty} {xs : List t.den} {z : Nat} (hk : st.get k = some ⟨.own t, xs, true, z⟩) {v : Value} (h : RelV F w st L (.ref k) v) : ∃ sa cap, v = .slice sa (List.length xs) cap := by
  obtain ⟨ob, e1, e2, e3⟩ := h
  have hob := hs.obj k _ hk
  rw [e3] at hob
  obtain ⟨⟨hp, _⟩, hr⟩ := hob
  rcases own_open hp hr with ⟨g1, g2, _⟩ | ⟨g, cap, cur, tag, g1, _⟩
  · exact ⟨none, 0, by rw [g2, g1]; rfl⟩
  · exact ⟨_, cap, g1⟩

theorem run_builtin {o : Oper} {b : Builtin} {args : Array Operand} {ats : Array TypeId} (ho : o.op = .call { callee := .builtin b, args := args, argTypes := ats }) {vs : Array Value} (hv : args.map a.eval = vs) :
    ∃ cs, execOp a.eval o = builtin b ats o.type cs vs := by
  refine ⟨args.map fun | .const _ => true | _ => false, ?_⟩
  simp [execOp, ho, Go.resolve, invoke, hv]
  congr

theorem op_len {s : S} {o : Oper} {args : Array Operand} {ats : Array TypeId} {ve : DV × Eff} {s' : S} (hC : Core B0 F0 w0 s.st s.fr a w F L B) (ho : o.op = .call { callee := .builtin .len, args := args, argTypes := ats })
    (h : (dop P C env o (fun x => resolve s.st (dval s.fr x))).val = some ve) (ha : apply o.dst s ve = some s') : Does P o a w fun rv w' => Abs B0 F0 w0 s' (a.put o.dst rv) w' := by
  simp only [dop, ho] at h
  unfold dbuiltin at h
  split at h <;> try (cases h; done)
  rename_i r hargs
  obtain ⟨x, hx1, hx2⟩ := map_one hargs
  have hargs2 : args.map a.eval = #[a.eval x] := by
    apply Array.toList_inj.1
    rw [Array.toList_map, hx1]
    rfl
  have hx := hC.fr.opd x
  rw [hx2] at hx
  obtain ⟨cs, hop⟩ := run_builtin ho hargs2
  simp only at h
  split at h <;> try (cases h; done)
  rename_i n hn
  simp only [Cmd.val_ret, Option.some.injEq] at h
  subst h
  refine .of_value hC ha (sv := Builtin.len_ ats o.type #[a.eval x]) (by rw [hop]; rfl) (rv := .int .i64 n) ?_ (relD_int.2 rfl)
  unfold dlen at hn
  cases hT : ats[0]? with
  | none => rw [hT] at hn; simp at hn
  | some T =>
    rw [hT] at hn
    simp only [Option.bind_some] at hn
    split at hn <;> try (cases hn; done)
    · rename_i s1 hu
      simp only [Option.some.injEq] at hn
      subst hn
      have hv := relD_str.1 hx.rel
      simp [Builtin.len_, hT, run_underlying hu, hv, goInt]
    · rename_i m e hu
      simp only [Option.some.injEq] at hn
      subst hn
      simp [Builtin.len_, hT, run_underlying hu, goInt]
    · rename_i e hu
      simp only [Option.some.injEq] at hn
      subst hn
      have hv : a.eval x = .slice none 0 0 := hx.rel
      simp [Builtin.len_, hT, run_underlying hu, hv, goInt]
    · rename_i e t xs hu
      simp only [Option.some.injEq] at hn
      subst hn
      obtain ⟨sa, cap, hv⟩ := slV hx.rel
      simp [Builtin.len_, hT, run_underlying hu, hv, goInt]
    · rename_i e k t xs z hu
      simp only [Option.some.injEq] at hn
      subst hn
      obtain ⟨sa, cap, hv⟩ := refV hC.sim (hx.ref k _ rfl) hx.rel
      simp [Builtin.len_, hT, run_underlying hu, hv, goInt]
    · rename_i e k p ob hu
      split at hn <;> try (cases hn; done)
      rename_i t xs hg
      simp only [Option.some.injEq] at hn
      subst hn
      obtain ⟨_, _, _, _, _, _, hr⟩ := rref_at hC.sim hx hg
      obtain ⟨sa, cap, hv⟩ : ∃ sa cap, a.eval x = .slice sa (List.length xs) cap := by
        rcases hr with ⟨g1, g2, _⟩ | ⟨g, cap, cur, tag, bs', g1, _⟩
        · exact ⟨none, 0, by rw [show a.eval x = .slice none 0 0 by simpa using g2, g1]; rfl⟩
        · exact ⟨_, cap, by simpa using g1⟩
      simp [Builtin.len_, hT, run_underlying hu, hv, goInt]

theorem two_args {s : S} {args : Array Operand} {r1 r2 : RV} (h : args.toList.map (fun x => resolve s.st (dval s.fr x)) = [r1, r2]) (hC : Core B0 F0 w0 s.st s.fr a w F L B) :
    ∃ x y, args.map a.eval = #[a.eval x, a.eval y] ∧ Opd F w s.st L r1 (a.eval x) ∧ Opd F w s.st L r2 (a.eval y) := by
  obtain ⟨x, y, hx1, hx2, hy2⟩ := map_two h
  refine ⟨x, y, ?_, by rw [← hx2]; exact hC.fr.opd x, by rw [← hy2]; exact hC.fr.opd y⟩
  apply Array.toList_inj.1
  rw [Array.toList_map, hx1]
  rfl

theorem op_minmax {s : S} {o : Oper} {mx : Bool} {args : Array Operand} {ats : Array TypeId} {ve : DV × Eff} {s' : S} (hC : Core B0 F0 w0 s.st s.fr a w F L B) (ho : o.op = .call { callee := .builtin (if mx then .max else .min), args := args, argTypes := ats })
    {r1 r2 : RV} (hargs : args.toList.map (fun x => resolve s.st (dval s.fr x)) = [r1, r2]) (h : (dminmax mx r1 r2).val = some ve) (ha : apply o.dst s ve = some s') : Does P o a w fun rv w' => Abs B0 F0 w0 s' (a.put o.dst rv) w' := by
  obtain ⟨x, y, hargs2, hx, hy⟩ := two_args hargs hC
  obtain ⟨cs, hop⟩ := run_builtin ho hargs2
  unfold dminmax iminmax at h
  split at h <;> try (cases h; done)
  rename_i k n k' m
  split at h <;> try (cases h; done)
  rename_i hk
  subst hk
  simp only [Cmd.val_ret, Option.some.injEq] at h
  subst h
  have h1 := relD_int.1 hx.rel
  have h2 := relD_int.1 hy.rel
  cases mx with
  | true => exact .of_value hC ha (sv := Builtin.max_ ats o.type #[a.eval x, a.eval y]) (by rw [hop]; rfl) (by rw [h1, h2]; exact run_max_int2 w ats o.type k k n m) (relD_int.2 rfl)
  | false => exact .of_value hC ha (sv := Builtin.min_ ats o.type #[a.eval x, a.eval y]) (by rw [hop]; rfl) (by rw [h1, h2]; exact run_min_int2 w ats o.type k k n m) (relD_int.2 rfl)

theorem elemsAs_spec (hs : Sim B0 F w st L B) {r : RV} {v : Value} (ho : Opd F w st L r v) {t : Ty} {ys : List t.den} (he : elemsAs t r = some ys) : ∃ a c ms, Src F w t ys v a c ms := by
  by_cases hr : r = .nilsl
  · subst hr
    simp only [elemsAs, Option.some.injEq] at he
    subst he
    have hv : v = .slice none 0 0 := ho.rel
    exact ⟨none, 0, [], by rw [hv]; rfl, .nil, fun h => absurd h (by simp)⟩
  · have e : elemsAs t r = (match r.elems with | some ⟨t', ys⟩ => if h : t' = t then some (h ▸ ys) else none | none => none) := by
      cases r <;> first | rfl | exact absurd rfl hr
    rw [e] at he
    split at he <;> try (cases he; done)
    rename_i t' ys' e1
    split at he <;> try (cases he; done)
    rename_i ht
    subst ht
    cases he
    exact elems_spec hs ho e1

/-- A row's append, of which the row itself stays as it was: both are data from now on. -/
theorem Core.appData {fr : List DV} {a : Act} (h : Core B0 F0 w0 st fr a w F L B) {k : Nat} {t : Ty} {xs ys : List t.den} {zf : Nat} (hk : st.get k = some ⟨.own t, xs, true, zf⟩) (hkp : k ≠ pinKey) {v vs : Value} (hv : RelV F w st L (.ref k) v)
    {sa : Option Addr} {c : Nat} {ms : List Value} (hs : Src F w t ys vs sa c ms) {ts : Array TypeId} {ty T e : TypeId} {i : TypeInfo} {z : Value} (h0 : ts[0]? = some T) (h1 : ts[1]? = some T) (ht : P.underlying T = some (.slice e)) (hi : P.info? e = some i) (hz : i.zero = some z)
    (hsz : i.size = t.size) (hzs : z.cells.size = t.size) (hpos : 0 < t.size) (h63 : xs.length + ys.length ≤ 9223372036854775807) (hfit : (xs.length + ys.length) * i.bytes ≤ 140737488355328) (dst : Option Tmp) :
    ∃ v' w' F' L' B', (Builtin.append_ ts ty #[v, vs]).run P w = .ok v' w' ∧ Core B0 F0 w0 (st.put k ⟨.sl t, xs, true, 0⟩) (setFr (fr.map (dim [k])) dst (.data ⟨.sl t, xs ++ ys⟩)) (a.put dst v') w' F' L' B' := by
  have hp : t.pure = true := by
    have ho := h.sim.obj k _ hk
    obtain ⟨ob, e1, _, e3⟩ := hv
    rw [hk] at e1
    cases e1
    rw [e3] at ho
    exact ho.1.1
  obtain ⟨F1, c1, e1, r1⟩ := h.freeze hk hv
  have hv1 := hv.ext h.sim e1 (by simp)
  have hs1 : Src F1 w t ys vs sa c ms := ⟨hs.eq, hs.rel.mono_mem fun x c b hb hr => Rel.keep e1.fm e1.cell _ _ _ _ (fun b' hb' => absurd (hb b' hb') (by simp)) hr, hs.cells⟩
  obtain ⟨v', w', L', B', hrun, c2, e2, hL⟩ := c1.app (P := P) (ts := ts) (ty := ty) (get_put_same _ _ _) hkp hv1 hs1 h0 h1 ht hi hz hsz hzs hpos h63 hfit dst
  obtain ⟨F2, c3, e3, r3⟩ := c2.freeze (get_put_same _ _ _) ⟨_, get_put_same _ _ _, rfl, hL⟩
  have r1' := (r1.keep e2.fm e2.cell).keep e3.fm e3.cell
  obtain ⟨cs1, hcs1, hr1⟩ := r1'
  have hcs1 : cs1 = [v] := by simpa [Val, Ty.isAgg] using hcs1
  subst hcs1
  have hLk : L k = .hdr v := by
    obtain ⟨ob, _, _, f3⟩ := hv
    exact f3
  have hg3 : ∀ j o, j ≠ k → st.get j = some o → (((st.put k ⟨.own t, xs, true, xs.length⟩).put k ⟨.own t, xs ++ ys, true, xs.length⟩).put k ⟨.own t, xs ++ ys, true, (xs ++ ys).length⟩).get j = some o := fun j o hj hg => by
    rw [get_put_other _ hj, get_put_other _ hj, get_put_other _ hj, hg]
  have hget : ∀ j o, j ≠ k → (st.put k ⟨.sl t, xs, true, 0⟩).get j = some o → st.get j = some o := fun j o hj hg => by rwa [get_put_other _ hj] at hg
  have hsim : Sim B0 F2 w' (st.put k ⟨.sl t, xs, true, 0⟩) (fun j => if j = k then L k else L' j) (fun j => if j = k then [] else B' j) := by
    refine ⟨fun j o hj => ?_, fun j o hj => ?_, fun i j hij hi hj => ?_, c3.sim.froz, fun j o hj => ?_, fun v o hv hj => by
      rw [if_neg (Ne.symm hkp)]
      exact c3.sim.pin v o hv (hg3 _ o (Ne.symm hkp) (hget _ o (Ne.symm hkp) hj))⟩
    · by_cases e : j = k
      · subst e
        rw [get_put_same] at hj
        cases hj
        rw [if_pos rfl, if_pos rfl, hLk]
        exact ⟨hp, hr1⟩
      · rw [if_neg e, if_neg e]
        exact c3.sim.obj j o (hg3 j o e (hget j o e hj))
    · by_cases e : j = k
      · subst e
        rw [get_put_same] at hj
        cases hj
        rw [if_pos rfl]
        intro b hb
        cases hb
      · rw [if_neg e]
        exact c3.sim.thaw j o (hg3 j o e (hget j o e hj))
    · by_cases e : i = k
      · rw [if_pos e]; intro b hb; cases hb
      · rw [if_neg e]
        by_cases e2 : j = k
        · rw [if_pos e2]; intro b _ hb; cases hb
        · rw [if_neg e2]
          obtain ⟨oi, hoi⟩ := Option.isSome_iff_exists.1 hi
          obtain ⟨oj, hoj⟩ := Option.isSome_iff_exists.1 hj
          exact c3.sim.apart i j hij (by rw [hg3 i oi e (hget i oi e hoi)]; rfl) (by rw [hg3 j oj e2 (hget j oj e2 hoj)]; rfl)
    · by_cases e : j = k
      · rw [if_pos e]; intro b hb; cases hb
      · rw [if_neg e]
        exact c3.sim.own j o (hg3 j o e (hget j o e hj))
  have hext : ExtM F w st L F2 w' (st.put k ⟨.sl t, xs, true, 0⟩) (fun j => if j = k then L k else L' j) [k] := by
    refine ⟨fun b j hb => e3.fm _ _ (e2.fm _ _ (e1.fm _ _ hb)), fun b j hb => e2.cell _ _ (e1.fm _ _ hb), fun j o hj hg => ?_, fun j o hj hg hvir => ?_⟩
    · have hne : j ≠ k := by simpa using hj
      obtain ⟨x', z', f1, f2, f3, f4⟩ := e2.obj j o (fun e => hne (Option.some.inj e)) (by rw [get_put_other _ hne]; exact hg)
      exact ⟨o.x, o.fz, by rw [get_put_other _ hne]; exact hg, by simp only [if_neg hne]; exact f2, fun _ h => h, f4⟩
    · have e : j = k := by simpa using hj
      subst e
      exact ⟨_, get_put_same _ _ _, rfl, by simp⟩
  exact ⟨v', w', F2, _, _, hrun, hsim, h.fr.nextMut hext (fun _ _ => r3), c3.lo, c3.hi, c3.below, c3.base, by simp [h.defers]⟩

theorem op_append {s : S} {o : Oper} {args : Array Operand} {ats : Array TypeId} {ve : DV × Eff} {s' : S} (hC : Core B0 F0 w0 s.st s.fr a w F L B) (ho : o.op = .call { callee := .builtin .append, args := args, argTypes := ats })
    {sh : Bool} {r1 r2 : RV} (hargs : args.toList.map (fun x => resolve s.st (dval s.fr x)) = [r1, r2]) (h : (dappend P ats sh r1 r2).val = some ve) (ha : apply o.dst s ve = some s') : Does P o a w fun rv w' => Abs B0 F0 w0 s' (a.put o.dst rv) w' := by
  obtain ⟨x, y, hargs2, hx, hy⟩ := two_args hargs hC
  obtain ⟨cs, hop⟩ := run_builtin ho hargs2
  unfold dappend at h
  split at h <;> try (cases h; done)
  rename_i T T1 hT hT1
  split at h <;> try (cases h; done)
  rename_i hTT
  subst hTT
  split at h <;> try (cases h; done)
  rename_i e hu
  split at h <;> try (cases h; done)
  rename_i by_ z hby hz
  split at h <;> try (cases h; done)
  rename_i hsz
  simp only [Bool.and_eq_true, bne_iff_ne, ne_eq] at hsz
  split at h <;> try (cases h; done)
  rename_i ys hys
  obtain ⟨hp, _, i, zv, hi, hzv, hzr⟩ := zeroP_spec (F := F) (w := w) hz
  obtain ⟨sa, c, ms, hsrc⟩ := elemsAs_spec hC.sim hy hys
  have hisz : i.size = z.t.size := by
    have := hsz.1
    simpa [sized, sizeP, hi] using this
  have hiby : i.bytes = by_ := by simpa [bytesP, hi] using hby
  have hzs : zv.cells.size = z.t.size := by have := Rel.length _ _ _ _ hzr; simpa using this
  have hop' : execOp a.eval o = (do pure (Next.value (← Builtin.append_ ats o.type #[a.eval x, a.eval y])) : Sem Next) := by rw [hop]; rfl
  split at h <;> try (cases h; done)
  · simp only [Cmd.val_guard, Cmd.val_ret] at h
    split at h <;> try (cases h; done)
    rename_i hroom
    simp only [roomOk, Bool.and_eq_true, decide_eq_true_eq] at hroom
    simp only [Option.some.injEq] at h
    subst h
    simp only [apply] at ha
    split at ha <;> try (cases ha; done)
    rename_i dd hdst
    split at ha <;> try (cases ha; done)
    rename_i hdp
    simp only [Option.some.injEq] at ha
    subst ha
    have hv : a.eval x = .slice none 0 0 := hx.rel
    rw [hv, hsrc.eq] at hop'
    have hms : ms.length = List.length ys * z.t.size := Rel.lengthL hsrc.rel
    have hfc : ∀ w', w'.heap = w.heap → (Builtin.firstCells i.size (List.length ys) (.slice sa (List.length ys) c)).run P w' = .ok ms.toArray w' := fun w' hw => by rw [hisz]; exact hsrc.first hw
    rcases Nat.eq_zero_or_pos (List.length ys) with h0 | h0
    · have hy0 : ys = [] := List.length_eq_zero_iff.1 h0
      subst hy0
      have hm0 : ms = [] := List.length_eq_zero_iff.1 (by rw [hms]; simp)
      subst hm0
      have hfc0 := hfc w rfl
      rw [List.length_nil] at hfc0 hop'
      have hr := run_append_none (ty := o.type) hT hT1 hu hi hfc0
      refine .value (.slice none 0 0) w (by rw [hop']; exact run_v hr) ?_
      rw [hdst]
      exact (hC.obj (New.refl w) (d := dd) (ob := ⟨.own z.t, [], true, 0⟩) (rl := .hdr (.slice none 0 0)) (bs := []) ⟨⟨hp, Nat.zero_le _⟩, .inl ⟨rfl, rfl, rfl⟩⟩ (by simp) hdp (dv := .ref dd) (v := .slice none 0 0) (fun st' L' h1 h2 => ⟨_, h1, rfl, h2⟩) rfl).abs
    · have hfit := growslice_fits (need := List.length ys) (old := 0) (bytes := i.bytes) h0 (by rw [hiby]; exact hroom.1)
      have ho' : ∀ w', w'.heap = w.heap → (Builtin.firstCells i.size 0 (.slice none 0 0)).run P w' = .ok ([] : List Value).toArray w' := fun w' _ => by simp [Builtin.firstCells]
      have hr := run_append_out (ty := o.type) (olds := []) hT hT1 hu hi hzv (b := none) (n := 0) (cap := 0) (by simp) ho' (by rw [hms, hisz]) hfc (by omega) (by rw [Nat.zero_add]; exact hroom.2) (by rw [Nat.zero_add, hiby]; exact hroom.1)
      simp only [Nat.zero_add, List.nil_append] at hr
      refine .value _ _ (by rw [hop']; exact run_v hr) ?_
      rw [hdst]
      have hge := grownCap_ge w (List.length ys) 0 e
      have hle := grownCap_le_maxLen w (List.length ys) 0 e (by simp only [maxLen]; exact hroom.2)
      have hcut : List.take (List.length ys * z.t.size) (ms ++ (Builtin.zeroCells zv.cells (grownCap w (List.length ys) 0 e - List.length ys)).toList).toArray.toList = ms := by
        rw [← hms]
        exact List.take_left
      obtain ⟨L', B', hc⟩ := hC.newRow (w1 := w.drew) rfl (New.drawn w) (xs := ys) hp (cells := (ms ++ (Builtin.zeroCells zv.cells (grownCap w (List.length ys) 0 e - List.length ys)).toList).toArray) e hge hle (by
        simp only [List.size_toArray, List.length_append, Array.length_toList, size_zeroCells, hzs, hms, ← Nat.add_mul]
        congr 1
        omega) (by rw [hcut]; exact hsrc.rel) dd hdp
      exact hc.abs
  · rename_i k t' xs f
    split at h <;> try (cases h; done)
    rename_i hkp
    split at h <;> try (cases h; done)
    rename_i ht
    subst ht
    cases sh with
    | true =>
      simp only [if_true, Cmd.val_guard, Cmd.val_ret] at h
      split at h <;> try (cases h; done)
      rename_i hroom
      simp only [roomOk, Bool.and_eq_true, decide_eq_true_eq] at hroom
      simp only [Option.some.injEq] at h
      subst h
      simp only [apply, Option.some.injEq] at ha
      subst ha
      have hk := hx.ref k _ rfl
      obtain ⟨v', w', F', L', B', hr, hc⟩ := hC.appData (P := P) (ts := ats) (ty := o.type) hk hkp hx.rel hsrc hT hT1 hu hi hzv hisz hzs (by omega) hroom.2 (by rw [hiby]; exact hroom.1) o.dst
      exact .value v' w' (by rw [hop']; exact run_v hr) hc.abs
    | false =>
    simp only [Bool.false_eq_true, if_false, Cmd.val_guard, Cmd.val_ret] at h
    split at h <;> try (cases h; done)
    rename_i hroom
    simp only [roomOk, Bool.and_eq_true, decide_eq_true_eq] at hroom
    simp only [Option.some.injEq] at h
    subst h
    simp only [apply, Option.some.injEq] at ha
    subst ha
    have hk := hx.ref k _ rfl
    obtain ⟨v', w', L', B', hr, hc, _⟩ := hC.app (P := P) (ts := ats) (ty := o.type) hk hkp hx.rel hsrc hT hT1 hu hi hzv hisz hzs (by omega) hroom.2 (by rw [hiby]; exact hroom.1) o.dst
    exact .value v' w' (by rw [hop']; exact run_v hr) hc.abs
end Go.D

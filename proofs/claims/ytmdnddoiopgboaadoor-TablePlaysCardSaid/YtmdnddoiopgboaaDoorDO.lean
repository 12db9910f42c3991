/- The abstract machine D, part O: its operations are the machine's, the last. -/
import Derived.Test.YtmdnddoiopgboaaDoorDN
import Derived.Laws.Tables
namespace Go.D
set_option linter.unusedSimpArgs false
set_option linter.unusedVariables false

variable {F F' : Nat → Nat → Prop} {w w' w2 : World} {P : Program} {st st' : St} {L L' : Nat → RLoc} {B B' : Nat → List Nat} {B0 : Base} {F0 : Nat → Nat → Prop} {w0 : World}
variable {fr : List DV} {a : Act} {C : Cfg} {env : Env}

/-! ### Slicing -/
theorem bndOf_spec (hC : Core B0 F0 w0 st fr a w F L B) {lo : Option Operand} {d : Nat} {n : Int} (h : bndOf (fun x => resolve st (dval fr x)) lo d = some n) :
    (lo = none ∧ n = d) ∨ ∃ x k, lo = some x ∧ a.eval x = .int k n := by
  cases lo with
  | none => simp [bndOf] at h; exact .inl ⟨rfl, h.symm⟩
  | some x =>
    simp only [bndOf] at h
    split at h <;> try (cases h; done)
    rename_i k m e
    cases h
    have hx := hC.fr.opd x
    rw [e] at hx
    exact .inr ⟨x, k, rfl, relD_int.1 hx.rel⟩

theorem run_sliceBound {k : IntKind} {i : Int} {y : Nat} {c : BoundsCode} (h0 : 0 ≤ i) (h1 : i ≤ y) : (Instr.sliceBound (.int k i) y c).run P w = .ok i.toNat w := by
  simp [Instr.sliceBound, asIntOf, h0, h1]

theorem run_bounds {isSlice : Bool} {len cap : Nat} {lo hi : Option Operand} {l h : Int} (hl : (lo = none ∧ l = (0 : Nat)) ∨ ∃ x k, lo = some x ∧ a.eval x = .int k l) (hh : (hi = none ∧ h = len) ∨ ∃ x k, hi = some x ∧ a.eval x = .int k h)
    (h0 : 0 ≤ l) (h1 : l ≤ h) (h2 : h ≤ len) (h3 : len ≤ cap) : (Instr.sliceBounds isSlice len cap (lo.map a.eval) (hi.map a.eval) none).run P w = .ok (l.toNat, h.toNat, cap) w := by
  have hb : ∀ (k : IntKind) c, (Instr.sliceBound (.int k h) cap c).run P w = .ok h.toNat w := fun k c => run_sliceBound (by omega) (by omega)
  have hb2 : ∀ (k : IntKind) c, (Instr.sliceBound (.int k l) h.toNat c).run P w = .ok l.toNat w := fun k c => run_sliceBound (by omega) (by omega)
  unfold Instr.sliceBounds
  rcases hh with ⟨rfl, rfl⟩ | ⟨x, k, rfl, e⟩ <;> rcases hl with ⟨rfl, rfl⟩ | ⟨y, k2, rfl, e2⟩
  · simp
  · simp at hb2; simp [e2, hb2]
  · simp [e, hb]
  · simp [e, e2, hb, hb2]

theorem zero_le' {l : Int} {n : Nat} (h0 : 0 ≤ l) (h1 : l ≤ (n : Int)) : l.toNat ≤ n := by omega

theorem op_slice {s : S} {o : Oper} {T : TypeId} {x : Operand} {lo hi mx : Option Operand} {ve : DV × Eff} {s' : S} (hC : Core B0 F0 w0 s.st s.fr a w F L B) (ho : o.op = .slice T x lo hi mx) (h : (dop P C env o (fun x => resolve s.st (dval s.fr x))).val = some ve) (ha : apply o.dst s ve = some s') :
    Does P o a w fun rv w' => Abs B0 F0 w0 s' (a.put o.dst rv) w' := by
  have hx := hC.fr.opd x
  simp only [dop, ho] at h
  split at h <;> try (cases h; done)
  have hop : execOp a.eval o = (do pure (Next.value (← Instr.sliceAt T (a.eval x) (lo.map a.eval) (hi.map a.eval) none)) : Sem Next) := by simp [execOp, ho]
  split at h <;> try (cases h; done)
  · rename_i n e k p ob hu e1
    rw [e1] at hx
    split at h <;> try (cases h; done)
    rename_i m t xs e2
    split at h <;> try (cases h; done)
    rename_i hc
    simp only [Bool.and_eq_true, decide_eq_true_eq] at hc
    obtain ⟨rfl, hsz⟩ := hc
    simp only [Cmd.val_ret, Option.some.injEq] at h
    subst h
    simp only [sized, beq_iff_eq] at hsz
    have hk := hx.ptr k p ob rfl
    obtain ⟨g, oo, e5, hval, hloc⟩ := ptr_at hx.rel hk
    refine .of_value hC ha hop (rv := .slice (some ⟨g, oo, none⟩) m m) ?_ ⟨ob, g, oo, m, t, hk, get_at _ _ _ _ e2, rfl, hval, hloc⟩
    rw [e5]
    simp [Instr.sliceAt, run_underlying hu, Instr.sureAddr, Instr.sliceBounds, run_sizeP hsz, addr_add]
  · rename_i s1 hu e1
    rw [e1] at hx
    have hv := relD_str.1 hx.rel
    split at h <;> try (cases h; done)
    rename_i l hh el eh
    simp only [Cmd.val_guard, Cmd.val_ret] at h
    split at h <;> try (cases h; done)
    rename_i hb
    simp only [Bool.and_eq_true, decide_eq_true_eq] at hb
    simp only [Option.some.injEq] at h
    subst h
    have hbs := run_bounds (P := P) (w := w) (isSlice := false) (len := ByteArray.size s1) (cap := ByteArray.size s1) (bndOf_spec hC el) (bndOf_spec hC eh) hb.1.1 hb.1.2 hb.2 (Nat.le_refl _)
    refine .of_value hC ha hop (rv := .string (ByteArray.extract s1 l.toNat hh.toNat)) ?_ (relD_str.2 rfl)
    rw [hv]
    simp [Instr.sliceAt, Instr.slice, run_underlying hu, hbs]
  · rename_i _ e hu
    split at h <;> try (cases h; done)
    rename_i t xs fz e1
    split at h <;> try (cases h; done)
    rename_i hsz
    split at h <;> try (cases h; done)
    rename_i l hh el eh
    simp only [Cmd.val_guard, Cmd.val_ret] at h
    split at h <;> try (cases h; done)
    rename_i hb
    simp only [Bool.and_eq_true, decide_eq_true_eq] at hb
    simp only [Option.some.injEq] at h
    subst h
    simp only [apply, Option.some.injEq] at ha
    subst ha
    obtain ⟨F2, c1, c2, c3⟩ := datum_spec hC (FE.refl ..) hC.sim hx e1
    obtain ⟨cs, hv, _, sa, cap, ms, f1, f2, f3, f4⟩ := c3
    simp only [Val, Ty.isAgg, Bool.false_eq_true, if_false] at hv
    rw [hv] at f1
    have hxv : a.eval x = .slice sa (List.length xs) cap := by simpa using f1
    simp only at f2 f3 f4
    simp only [sized, beq_iff_eq] at hsz
    have hbs := run_bounds (P := P) (w := w) (isSlice := true) (len := List.length xs) (cap := cap) (bndOf_spec hC el) (bndOf_spec hC eh) hb.1.1 hb.1.2 hb.2 f2
    have hln : l.toNat ≤ hh.toNat := Int.toNat_le_toNat hb.1.2
    have hhn : hh.toNat ≤ List.length xs := zero_le' (Int.le_trans hb.1.1 hb.1.2) hb.2
    refine .value (.slice (if cap = l.toNat then sa else sa.map (·.add (l.toNat * t.size))) (hh.toNat - l.toNat) (cap - l.toNat)) w ?_ (Core.updVal c1 ?_)
    · rw [hop]
      refine run_v ?_
      rw [hxv]
      simp [Instr.sliceAt, Instr.slice, run_underlying hu, hbs, run_sizeP hsz]
    · obtain ⟨b1, b2, eb, r1, r2⟩ := RelL.take (sz := t.size) (fun x c b h => Rel.length t x c b h) f3 l.toNat
      obtain ⟨rfl, rfl⟩ : b1 = [] ∧ b2 = [] := by simpa using eb.symm
      obtain ⟨b1, b2, eb, r3, r4⟩ := RelL.take (sz := t.size) (fun x c b h => Rel.length t x c b h) r2 (hh.toNat - l.toNat)
      obtain ⟨rfl, rfl⟩ : b1 = [] ∧ b2 = [] := by simpa using eb.symm
      have hlen : List.length ((List.drop l.toNat xs).take (hh.toNat - l.toNat)) = hh.toNat - l.toNat := by
        rw [List.length_take, List.length_drop]; omega
      refine ⟨_, rfl, rfl, (if cap = l.toNat then sa else sa.map (·.add (l.toNat * t.size))), cap - l.toNat, (List.drop (l.toNat * t.size) ms).take ((hh.toNat - l.toNat) * t.size), ?_, ?_, r3, fun h0 => ?_⟩
      · simp only [hlen]
      · simp only [hlen]; omega
      · simp only [hlen] at h0
        obtain ⟨b, oo, rfl, hcell⟩ := f4 (by omega)
        refine ⟨b, oo + l.toNat * t.size, ?_, fun j v hj => ?_⟩
        · rw [if_neg (by omega)]; simp [addr_add]
        · rw [Nat.add_assoc]
          refine hcell _ v ?_
          rw [List.getElem?_take] at hj
          split at hj <;> try (cases hj; done)
          rwa [List.getElem?_drop] at hj

/-! ### Copying -/
theorem run_copy {T e : TypeId} {ts : Array TypeId} {ty : TypeId} {t : Ty} {g o n cap c m : Nat} {sa : Option Addr} {cur : Array Value} {tag : TypeId} {cs : List Value} (h0 : ts[0]? = some T) (hu : P.underlying T = some (.slice e)) (hs : sizeP P e = some t.size)
    (hg : w.heap[g]? = some (.cells cur tag (0, 0))) (hn : (Builtin.firstCells t.size (Nat.min m n) (.slice sa m c)).run P w = .ok cs.toArray w) (hfit : o + cs.length ≤ cur.size) (h1 : ∀ v ∈ cs, v.oneCell' = true) :
    (Builtin.copy_ ts ty #[.slice (some ⟨g, o, none⟩) n cap, .slice sa m c]).run P w = .ok (goInt (Nat.min m n)) (w.setRow g (splice cur.toList o cs).toArray) := by
  have hst := run_storeCells_at P g o tag cs 0 cur w hg (by simpa using hfit) h1
  simp only [Nat.add_zero] at hst
  simp [Builtin.copy_, h0, run_underlying hu, Builtin.lenOf, run_sizeP hs, hn, hst, splice]

theorem Upd.widen {g o : Nat} {c c' rest : List Value} (hu : Upd w w2 g o c) (hh : HoldsAt w g o (c' ++ rest)) (hl : c'.length = c.length) : Upd w w2 g o (c ++ rest) := by
  obtain ⟨cur, tag, e1, e2⟩ := hu.at_
  obtain ⟨cur', tag', pre, post, f1, f2, f3⟩ := hh
  rw [e1] at f1
  cases f1
  refine ⟨hu.os, hu.tape, hu.output, hu.size, hu.other, cur, tag, e1, ?_⟩
  rw [e2]
  congr 2
  have h1 : cur.toList = pre ++ c' ++ (rest ++ post) := by simpa using f2
  have h2 : cur.toList = pre ++ (c' ++ rest) ++ post := f2
  rw [h1, splice_mid pre c' (rest ++ post) c o f3.symm hl.symm, ← h1, h2, splice_mid pre (c' ++ rest) post (c ++ rest) o f3.symm (by simp [hl])]
  simp

theorem min_eq_take {α : Type} (l : List α) (n : Nat) : (l.take n).length = Nat.min l.length n := by
  rw [List.length_take]; exact Nat.min_comm _ _

theorem op_copy {s : S} {o : Oper} {args : Array Operand} {ats : Array TypeId} {ve : DV × Eff} {s' : S} (hC : Core B0 F0 w0 s.st s.fr a w F L B) (ho : o.op = .call { callee := .builtin .copy, args := args, argTypes := ats })
    {r1 r2 : RV} (hargs : args.toList.map (fun x => resolve s.st (dval s.fr x)) = [r1, r2]) (h : (dcopy P ats[0]? r1 r2).val = some ve) (ha : apply o.dst s ve = some s') : Does P o a w fun rv w' => Abs B0 F0 w0 s' (a.put o.dst rv) w' := by
  obtain ⟨x, y, hargs2, hx, hy⟩ := two_args hargs hC
  obtain ⟨cs0, hop⟩ := run_builtin ho hargs2
  unfold dcopy at h
  split at h <;> try (cases h; done)
  rename_i k p ob
  split at h <;> try (cases h; done)
  rename_i e hT
  obtain ⟨T, hT0, hu⟩ := Option.bind_eq_some_iff.1 hT
  split at h <;> try (cases h; done)
  rename_i n t xs hget
  split at h <;> try (cases h; done)
  rename_i ys hys
  split at h <;> try (cases h; done)
  rename_i hc
  simp only [Bool.and_eq_true] at hc
  split at h <;> try (cases h; done)
  rename_i x' hset
  split at h <;> try (cases h; done)
  rename_i hvir
  simp only [Cmd.val_ret, Option.some.injEq] at h
  subst h
  simp only [apply, Option.some.injEq, putAll] at ha
  subst ha
  have hk := hx.asl k p ob rfl
  obtain ⟨ob', g, oo, m, t2, e1, e2, e3, hval, hloc⟩ := hx.rel
  rw [hk] at e1
  cases e1
  have h2 := get_at _ _ _ _ hget
  rw [e2] at h2
  obtain ⟨rfl, rfl⟩ : m = n ∧ t = t2 := by simpa [eq_comm] using h2
  obtain ⟨cs, hr, hh⟩ := place_pure hC.sim hk hval hloc hget (show (Ty.arr m t).pure = true from hc.2)
  obtain ⟨sa, c, ms, hsrc⟩ := elemsAs_spec hC.sim hy hys
  have hms : ms.length = List.length ys * t.size := Rel.lengthL hsrc.rel
  obtain ⟨hn, hrl⟩ := hr
  have hcs : cs.length = List.length xs * t.size := Rel.lengthL hrl
  have hszP : sizeP P e = some t.size := by simpa [sized] using hc.1
  -- what goes over
  obtain ⟨M, hMe⟩ : ∃ M, M = Nat.min (List.length ys) m := ⟨_, rfl⟩
  have hM1 : M ≤ List.length ys := by rw [hMe]; exact Nat.min_le_left _ _
  have hM2 : M ≤ m := by rw [hMe]; exact Nat.min_le_right _ _
  have hmn : List.length xs = m := hn
  have hcut : (ms.take (M * t.size)).length = M * t.size := by
    rw [List.length_take, hms]; exact Nat.min_eq_left (Nat.mul_le_mul_right _ hM1)
  obtain ⟨b1, b2, eb, r1, r2⟩ := RelL.take (sz := t.size) (fun x c b h => Rel.length t x c b h) hsrc.rel M
  obtain ⟨rfl, rfl⟩ : b1 = [] ∧ b2 = [] := by simpa using eb.symm
  obtain ⟨b1, b2, eb, r3, r4⟩ := RelL.take (sz := t.size) (fun x c b h => Rel.length t x c b h) hrl M
  obtain ⟨rfl, rfl⟩ : b1 = [] ∧ b2 = [] := by simpa using eb.symm
  have hfc : (Builtin.firstCells t.size M (.slice sa (List.length ys) c)).run P w = .ok (ms.take (M * t.size)).toArray w := by
    rcases Nat.eq_zero_or_pos M with h0 | h0
    · rw [h0]; cases sa <;> simp [Builtin.firstCells, loadCells, loadCellsFrom]
    · obtain ⟨b, o', rfl, hcell⟩ := hsrc.cells (by omega)
      exact run_firstCells_some (P := P) w t.size M ⟨b, o', none⟩ _ c _ hcut (fun j u hj => by
        rw [addr_add]
        refine hcell j u ?_
        rw [List.getElem?_take] at hj
        split at hj <;> first | exact hj | cases hj)
  obtain ⟨cur, tag, pre, post, f1, f2, f3⟩ := hh
  have hsz2 : M * t.size ≤ cs.length := by rw [hcs, hmn]; exact Nat.mul_le_mul_right _ hM2
  have hcsz : cur.size = pre.length + cs.length + post.length := by
    have := congrArg List.length f2
    simp at this
    omega
  have hcp := run_copy (P := P) (ty := o.type) (w := w) (o := oo) (n := m) (cap := m) (c := c) (m := List.length ys) (t := t) hT0 hu hszP f1 (by rw [← hMe]; exact hfc) (by rw [hcut]; omega) (fun v hv => Rel.ones (F := F) (w := w) (.arr (List.length ys) t) ys ms [] ⟨rfl, hsrc.rel⟩ v (List.mem_of_mem_take hv))
  have hup : Upd w (w.setRow g (splice cur.toList oo (ms.take (M * t.size))).toArray) g oo (ms.take (M * t.size)) :=
    ⟨rfl, rfl, rfl, by simp, fun b hb => setRow_other w g b _ hb, cur, tag, f1, setRow_heap w g cur _ tag _ f1⟩
  have hup2 := hup.widen (c' := cs.take (M * t.size)) (rest := cs.drop (M * t.size)) (by rw [List.take_append_drop]; exact ⟨cur, tag, pre, post, f1, f2, f3⟩) (by rw [List.length_take, hcut]; omega)
  have hty : ys.take m = ys.take M := by
    rcases Nat.le_total (List.length ys) m with h | h
    · have : M = List.length ys := by rw [hMe]; exact Nat.min_eq_left h
      rw [this, List.take_length, List.take_of_length_le h]
    · have : M = m := by rw [hMe]; exact Nat.min_eq_right h
      rw [this]
  have htl : List.length (ys.take m) = M := by rw [hMe]; exact min_eq_take ys m
  have hnew : Rel F w (.arr m t) (ys.take m ++ xs.drop (List.length (ys.take m))) (ms.take (M * t.size) ++ cs.drop (M * t.size)) [] := by
    refine ⟨?_, ?_⟩
    · rw [List.length_append, htl, List.length_drop]; omega
    · rw [htl, hty]
      simpa using r1.append r4
  refine .value (goInt (Nat.min (List.length ys) m)) _ (by
    have hop' : execOp a.eval o = (do pure (Next.value (← Builtin.copy_ ats o.type #[a.eval x, a.eval y])) : Sem Next) := by rw [hop]; rfl
    rw [hop', e3, hsrc.eq]; exact run_v hcp) ?_
  exact ((hC.upd hk hval hloc hget hc.2 hset hnew hup2 (fun h => by simp [h] at hvir)).value (d := .data ⟨.int .i64, ((min (List.length ys) m : Nat) : Int)⟩) (v := goInt (Nat.min (List.length ys) m)) (relD_int.2 rfl)).abs

/-! ### Literals -/
theorem fieldAt_pure : ∀ (i : Nat) (t : Ty) (off : Nat) (u : Ty), t.pure = true → fieldAt i t = some (off, u) → u.pure = true
  | 0, t, off, u, hp, h => by
    cases t <;> simp [fieldAt] at h
    obtain ⟨rfl, rfl⟩ := h
    simp only [Ty.pure, Bool.and_eq_true] at hp
    exact hp.1
  | i + 1, t, off, u, hp, h => by
    cases t <;> simp [fieldAt] at h
    obtain ⟨o', h, rfl⟩ := h
    simp only [Ty.pure, Bool.and_eq_true] at hp
    exact fieldAt_pure i _ _ _ hp.2 h

theorem parts_opd {s : S} (hC : Core B0 F0 w0 s.st s.fr a w F L B) (ps : Array (Nat × Operand)) :
    (ps.toList.map fun (i, x) => (i, resolve s.st (dval s.fr x))).map (·.1) = (ps.map fun (i, x) => (i, a.eval x)).toList.map (·.1) ∧
    ∀ (i : Nat) (r : Nat × RV) (v : Nat × Value), (ps.toList.map fun (i, x) => (i, resolve s.st (dval s.fr x)))[i]? = some r → (ps.map fun (i, x) => (i, a.eval x)).toList[i]? = some v → Opd F w s.st L r.2 v.2 := by
  rw [Array.toList_map]
  refine ⟨by rw [List.map_map, List.map_map]; rfl, fun i r v h1 h2 => ?_⟩
  rw [List.getElem?_map, Option.map_eq_some_iff] at h1 h2
  obtain ⟨p, hp, rfl⟩ := h1
  obtain ⟨q, hq, rfl⟩ := h2
  rw [hp] at hq
  cases hq
  exact hC.fr.opd p.2

theorem mapM_places : ∀ (fs : List Field), fs.all (fun f => (P.info? f.type).isSome) = true → ∃ pl, fs.mapM (fun f => (P.info? f.type).map fun i => (f.offset, i.size)) = some pl ∧ ∀ (i : Nat) (f : Field), fs[i]? = some f → ∃ z, P.info? f.type = some z ∧ pl[i]? = some (f.offset, z.size)
  | [], _ => ⟨[], by simp, by simp⟩
  | f :: fs, h => by
    simp only [List.all_cons, Bool.and_eq_true] at h
    obtain ⟨pl, h1, h2⟩ := mapM_places fs h.2
    obtain ⟨z, hz⟩ := Option.isSome_iff_exists.1 h.1
    refine ⟨(f.offset, z.size) :: pl, by simp [List.mapM_cons, hz, h1], fun i g hg => ?_⟩
    cases i with
    | zero => simp at hg; subst hg; exact ⟨z, hz, rfl⟩
    | succ i => exact h2 i g (by simpa using hg)

theorem arr_part {n : Nat} {t : Ty} {sz : Nat} (hs : sz = t.size) (ht : t.pure = true) {i : Nat} (hi : i < n) : PartOk (fun i => some (i * sz, sz)) true (.arr n t) i t :=
  ⟨⟨i * t.size, by rw [hs], fun x => ⟨hi, trivial⟩, fun w g o => ⟨rfl, rfl⟩, rfl, ht⟩⟩

/-- what is known of rows that become parts -/
theorem partsOwn_spec (hs : Sim B0 F w st L B) (U : Ty) : ∀ (ps : List (Nat × RV)) (vs : List (Nat × Value)), ps.map (·.1) = vs.map (·.1) → (∀ (i : Nat) (r : Nat × RV) (v : Nat × Value), ps[i]? = some r → vs[i]? = some v → Opd F w st L r.2 v.2) →
    ∀ {ds : List (Nat × DVal)} {ks : List Nat}, partsOwn U ps = some (ds, ks) → ks.Nodup → ∃ bp, RelPo F w ds vs bp ∧ bp.Nodup ∧ (∀ b ∈ bp, (∃ k ∈ ks, b ∈ B k) ∧ ∀ j, ¬ F b j) ∧ (∀ k ∈ ks, ∃ v o, L k = .hdr v ∧ st.get k = some o) ∧ ∀ i d, (i, d) ∈ ds → ∃ off, fieldAt i U = some (off, d.t) := by
  intro ps
  induction ps with
  | nil =>
    intro vs hl _ ds ks h _
    simp only [partsOwn, Option.some.injEq, Prod.mk.injEq] at h
    obtain ⟨rfl, rfl⟩ := h
    have : vs = [] := by simpa using hl
    subst this
    exact ⟨[], .nil, .nil, by simp, by simp, by simp⟩
  | cons p ps ih =>
    intro vs hl ho ds ks h hn
    obtain ⟨i, r⟩ := p
    cases vs with
    | nil => simp at hl
    | cons v vs =>
      obtain ⟨i', v⟩ := v
      simp only [List.map_cons, List.cons.injEq] at hl
      obtain ⟨rfl, hl⟩ := hl
      have hx := ho 0 (i, r) (i, v) rfl rfl
      unfold partsOwn at h
      split at h <;> try (cases h; done)
      · rename_i e; cases e
      · rename_i k u xs z r' e
        cases e
        split at h <;> try (cases h; done)
        rename_i off t ds' ks' hf hps
        split at h <;> cases h
        rename_i hc
        obtain ⟨rfl, rfl⟩ := hc
        obtain ⟨n1, n2⟩ := List.nodup_cons.1 hn
        obtain ⟨bp, k1, k2, k3, k4, k5⟩ := ih vs hl (fun i r v h1 h2 => ho (i + 1) r v (by simpa using h1) (by simpa using h2)) hps n2
        have hk := hx.ref k _ rfl
        obtain ⟨ob, f1, f2, f3⟩ := hx.rel
        have hob := hs.obj k _ hk
        have hth := hs.thaw k _ hk
        simp only at f3
        rw [f3] at hob
        obtain ⟨⟨hp, _⟩, hr⟩ := hob
        have hbn : (B k).Nodup := by
          rcases own_open hp hr with ⟨_, _, e⟩ | ⟨g, _, _, _, _, e, _⟩ <;> rw [e] <;> simp
        refine ⟨B k ++ bp, .cons (c := [v]) rfl hr k1, List.nodup_append.2 ⟨hbn, k2, fun a ha b hb e => ?_⟩, fun b hb => ?_, fun k' hk' => ?_, fun j d hm => ?_⟩
        · subst e
          obtain ⟨⟨k', hk', hb'⟩, _⟩ := k3 a hb
          obtain ⟨_, o', _, hg'⟩ := k4 k' hk'
          exact hs.apart k k' (fun e => n1 (e ▸ hk')) (by simp [hk]) (by simp [hg']) a ha hb'
        · rcases List.mem_append.1 hb with hb | hb
          · refine ⟨⟨k, by simp, hb⟩, fun j hF => ?_⟩
            have := hth b hb j hF
            omega
          · obtain ⟨⟨k', hk', hb'⟩, h2⟩ := k3 b hb
            exact ⟨⟨k', by simp [hk'], hb'⟩, h2⟩
        · rcases List.mem_cons.1 hk' with rfl | hk'
          · exact ⟨_, _, f3, hk⟩
          · exact k4 k' hk'
        · rcases List.mem_cons.1 hm with hm | hm
          · cases hm
            exact ⟨off, hf⟩
          · exact k5 j d hm
      · rename_i d r' e
        cases e
        split at h <;> try (cases h; done)
        rename_i off t ds' ks' hf hps
        split at h <;> cases h
        rename_i hc
        obtain ⟨rfl, hp⟩ := hc
        obtain ⟨bp, k1, k2, k3, k4, k5⟩ := ih vs hl (fun i r v h1 h2 => ho (i + 1) r v (by simpa using h1) (by simpa using h2)) hps hn
        obtain ⟨c, c1, c2⟩ := hx.rel
        refine ⟨[] ++ bp, .cons c1 c2 k1, by simpa using k2, by simpa using k3, k4, fun j d hm => ?_⟩
        rcases List.mem_cons.1 hm with hm | hm
        · cases hm
          exact ⟨off, hf⟩
        · exact k5 j d hm

theorem op_buildO {s : S} {o : Oper} {T : TypeId} {U : Ty} {parts : Array (Nat × Operand)} {ve : DV × Eff} {s' : S} (hC : Core B0 F0 w0 s.st s.fr a w F L B) (ho : o.op = .build T parts) (h : (dbuildO P T U (parts.toList.map fun (i, x) => (i, resolve s.st (dval s.fr x)))).val = some ve) (ha : apply o.dst s ve = some s') :
    Does P o a w fun rv w' => Abs B0 F0 w0 s' (a.put o.dst rv) w' := by
  have hop : execOp a.eval o = (do pure (Next.value (← Instr.build T (parts.map fun (i, x) => (i, a.eval x)))) : Sem Next) := by simp [execOp, ho]
  obtain ⟨hp1, hp2⟩ := parts_opd hC parts
  unfold dbuildO at h
  split at h <;> try (cases h; done)
  rename_i inf fs ta tb hi hu
  split at h <;> try (cases h; done)
  rename_i zv hzv
  split at h <;> try (cases h; done)
  rename_i ds ks hz hparts
  split at h <;> try (cases h; done)
  rename_i hok
  simp only [Bool.and_eq_true, decide_eq_true_eq] at hok
  obtain ⟨⟨hok1, hok2⟩, hnd⟩ := hok
  split at h <;> try (cases h; done)
  rename_i x hplace
  simp only [Cmd.val_ret, Option.some.injEq] at h
  subst h
  simp only [apply] at ha
  split at ha <;> try (cases ha; done)
  rename_i dd hdst
  split at ha <;> try (cases ha; done)
  rename_i hdp
  simp only [Option.some.injEq] at ha
  subst ha
  simp only [Bool.or_eq_true, decide_eq_true_eq, List.contains_eq_mem, not_or] at hdp
  obtain ⟨bp, k1, k2, k3, k4, k5⟩ := partsOwn_spec hC.sim (.pair ta tb) _ _ hp1 hp2 hparts hnd
  obtain ⟨c0, e0, hz0⟩ := zeroCells_rel (F := F) (w := w) _ _ _ hz
  rw [List.append_nil] at e0
  subst e0
  obtain ⟨pl, hpl1, hpl2⟩ := mapM_places fs.toList hok2
  obtain ⟨cells', bs', m1, m2, m3, m4⟩ := fillO_spec (pl := (pl.toArray[·]?)) k1 (Ty.dflt (.pair ta tb)) x zv.cells [] (fun i d hm => by
    have hf := List.all_eq_true.1 hok1 _ hm
    obtain ⟨fs', f, off, u, hu', hfi, hfa, hoff, hsz, h0, hag⟩ := field_open hf
    rw [hu] at hu'
    cases hu'
    obtain ⟨off', hty⟩ := k5 i d hm
    rw [hfa] at hty
    cases hty
    obtain ⟨zi, hzi, hpli⟩ := hpl2 i f (by simpa using hfi)
    have hzs : zi.size = d.t.size := by simpa [sized, sizeP, hzi] using hsz
    exact ⟨off, hfa, by simp [hpli, hzs, hoff]⟩) hz0 hplace k2 .nil (by simp)
  have hb : P.built T (parts.map fun (i, x) => (i, a.eval x)).toList = some cells' := by
    simp only [Program.built, hi, hu, hzv, hpl1]
    exact m1
  refine .value (.agg cells') w (by rw [hop]; exact run_v (run_build w T _ cells' hb)) ?_
  rw [hdst]
  have := hC.mk' (d := dd) (ks := ks) (New.refl w) k4 hdp.1 hdp.2 (ob := ⟨.pair ta tb, x, true, 0⟩) (v := .agg cells') (bs := bs') ⟨m3, cells'.toList, by simp, m2⟩
    (fun b hb => by
      rcases m4 b hb with h | h
      · cases h
      · exact .inr (k3 b h).1)
    (fun b hb j => by
      rcases m4 b hb with h | h
      · cases h
      · exact (k3 b h).2 j) rfl
  exact this.abs (s := ⟨(s.fr.map (forgets (dd :: ks))).set dd (keyed dd (.ref 0)), (putAll (ks.map fun k => (k, deadObj)) s.st).put dd ⟨.pair ta tb, x, true, 0⟩⟩)

theorem op_build {s : S} {o : Oper} {T : TypeId} {parts : Array (Nat × Operand)} {ve : DV × Eff} {s' : S} (hC : Core B0 F0 w0 s.st s.fr a w F L B) (ho : o.op = .build T parts) (h : (dop P C env o (fun x => resolve s.st (dval s.fr x))).val = some ve) (ha : apply o.dst s ve = some s') :
    Does P o a w fun rv w' => Abs B0 F0 w0 s' (a.put o.dst rv) w' := by
  have hop : execOp a.eval o = (do pure (Next.value (← Instr.build T (parts.map fun (i, x) => (i, a.eval x)))) : Sem Next) := by simp [execOp, ho]
  obtain ⟨hp1, hp2⟩ := parts_opd hC parts
  simp only [dop, ho] at h
  split at h
  · exact op_buildO hC ho h ha
  split at h <;> try (cases h; done)
  rename_i z hz
  split at h <;> try (cases h; done)
  · rename_i fs hu
    split at h <;> try (cases h; done)
    rename_i ds l hparts
    split at h <;> try (cases h; done)
    rename_i hok
    simp only [Bool.and_eq_true] at hok
    split at h <;> try (cases h; done)
    rename_i x hplace
    simp only [Cmd.val_ret, Option.some.injEq] at h
    subst h
    simp only [apply, Option.some.injEq] at ha
    subst ha
    obtain ⟨F2, c1, c2, c3, c4⟩ := partsAs_spec hC.sim _ _ _ hC (FE.refl ..) hp1 hp2 hparts
    obtain ⟨hp, _, i, zv, hi, hzv, hzr⟩ := zeroP_spec (F := F2) (w := w) hz
    obtain ⟨pl, hpl1, hpl2⟩ := mapM_places fs.toList hok.2
    obtain ⟨cells', k1, k2⟩ := fill_spec (pl := (pl.toArray[·]?)) (isArr := false) c1.sim.froz hp c3 z.x x zv.cells (fun i d hm => by
      have hf := List.all_eq_true.1 hok.1.1 _ hm
      obtain ⟨fs', f, off, u, hu', hfi, hfa, hoff, hsz, h0, hag⟩ := field_open hf
      rw [hu] at hu'
      cases hu'
      have hty := c4 i d hm
      rw [hfa] at hty
      simp only [Option.map_some, Option.some.injEq] at hty
      subst hty
      obtain ⟨q1, q2, q3⟩ := fieldAt_spec i z.t off _ hfa
      obtain ⟨zi, hzi, hpli⟩ := hpl2 i f (by simpa using hfi)
      have hzs : zi.size = d.t.size := by simpa [sized, sizeP, hzi] using hsz
      exact ⟨⟨off, by simp [hpli, hzs, hoff], q2, q3, q1, fieldAt_pure _ _ _ _ hp hfa⟩⟩) hzr hplace
    have hb : P.built T (parts.map fun (i, x) => (i, a.eval x)).toList = some cells' := by
      simp only [Program.built, hi, hu, hzv, hpl1]
      exact k1
    refine .value (.agg cells') w (by rw [hop]; exact run_v (run_build w T _ cells' hb)) (Core.updVal c1 ?_)
    exact ⟨cells'.toList, by simp [Val, hok.1.2], k2⟩
  · rename_i n0 e hu
    split at h <;> try (cases h; done)
    rename_i n t zx hzt1 hzt2
    split at h <;> try (cases h; done)
    rename_i ds l hparts
    split at h <;> try (cases h; done)
    rename_i hsz
    split at h <;> try (cases h; done)
    rename_i x hplace
    simp only [Cmd.val_ret, Option.some.injEq] at h
    subst h
    simp only [apply, Option.some.injEq] at ha
    subst ha
    obtain ⟨F2, c1, c2, c3, c4⟩ := partsAs_spec hC.sim _ _ _ hC (FE.refl ..) hp1 hp2 hparts
    obtain ⟨hp, _, i, zv, hi, hzv, hzr⟩ := zeroP_spec (F := F2) (w := w) hz
    obtain ⟨zt, zz⟩ := z
    simp only at hzt1 hzt2 hp hzr
    subst hzt1
    have hzz := eq_of_heq hzt2
    subst hzz
    simp only [sized, sizeP, beq_iff_eq, Option.map_eq_some_iff] at hsz
    obtain ⟨ie, hie, hsz⟩ := hsz
    have hpt : t.pure = true := hp
    obtain ⟨cells', k1, k2⟩ := fill_spec (pl := fun i => some (i * ie.size, ie.size)) (isArr := true) c1.sim.froz hp c3 _ x zv.cells (fun i d hm => by
      have hty := c4 i d hm
      split at hty <;> try (cases hty; done)
      rename_i hin
      cases hty
      exact arr_part hsz hpt hin) hzr hplace
    have hb : P.built T (parts.map fun (i, x) => (i, a.eval x)).toList = some cells' := by
      simp only [Program.built, hi, hu, hzv, hie]
      exact k1
    refine .value (.agg cells') w (by rw [hop]; exact run_v (run_build w T _ cells' hb)) (Core.updVal c1 ?_)
    exact ⟨cells'.toList, by simp [Val, Ty.isAgg], k2⟩
theorem madeCells_flat {z : Array Value} {sz : Nat} (hz : z.size = sz) : ∀ n : Nat, (madeCells z (n * sz)).toList = (List.replicate n z.toList).flatten
  | 0 => by simp [madeCells]
  | n + 1 => by
    have ih := madeCells_flat hz n
    have h1 : (madeCells z ((n + 1) * sz)).toList = (madeCells z (n * sz)).toList ++ z.toList := by
      apply List.ext_getElem
      · simp [madeCells, hz, Nat.add_mul]
      · intro i h1 h2
        simp only [madeCells, Array.length_toList, Array.size_map, Array.size_range] at h1
        rw [List.getElem_append]
        simp only [madeCells, Array.length_toList, Array.size_map, Array.size_range]
        split
        · simp [madeCells]
        · rename_i hge
          have hlt : i - n * sz < sz := by rw [Nat.add_mul] at h1; omega
          have hmod : i % sz = i - n * sz := by
            have : i = sz * n + (i - n * sz) := by rw [Nat.mul_comm]; omega
            rw [this, Nat.mul_add_mod, Nat.mod_eq_of_lt hlt, Nat.mul_comm]
            omega
          simp only [Array.getElem_toList, Array.getElem_map, Array.getElem_range, hz, hmod]
          rw [getElem!_pos z (i - n * sz) (by omega)]
    rw [h1, ih, List.replicate_succ', List.flatten_append]
    simp
theorem relL_replicate {t : Ty} {x : t.den} {cs : List Value} (h : Rel F w t x cs []) : ∀ n : Nat, RelL (Rel F w t) (List.replicate n x) (List.replicate n cs).flatten []
  | 0 => .nil
  | n + 1 => by simpa [List.replicate_succ] using RelL.cons h (relL_replicate h n)
theorem rel_made {t : Ty} {x : t.den} {z : Array Value} (h : Rel F w t x z.toList []) (n : Nat) : RelL (Rel F w t) (List.replicate n x) (madeCells z (n * t.size)).toList [] := by
  rw [madeCells_flat (by have := Rel.length _ _ _ _ h; simpa using this)]
  exact relL_replicate h n
theorem take_made {z : Array Value} {sz n m : Nat} (hz : z.size = sz) (h : n ≤ m) : (madeCells z (m * sz)).toList.take (n * sz) = (madeCells z (n * sz)).toList := by
  have hle : n * sz ≤ m * sz := Nat.mul_le_mul_right _ h
  apply List.ext_getElem
  · simp [madeCells, Nat.min_eq_left h]
  · intro i h1 h2
    simp [madeCells]

theorem run_buildSlice' {t e : TypeId} {len : Nat} {parts : Array (Nat × Value)} {cells : Array Value} {ie : TypeInfo} {z : Value}
    (hu : P.underlying t = some (.slice e)) (hie : P.info? e = some ie) (hz : ie.zero = some z) (hsmall : len * ie.size ≤ 16777216)
    (h : Instr.fill (fun i => some (i * ie.size, ie.size)) (madeCells z.cells (len * ie.size)) parts.toList = some cells) :
    (Instr.buildSlice t len parts).run P w = .ok (.slice (some ⟨w.heap.size, 0, none⟩) len len) (w.alloc (.cells cells e)) := by
  have h1 : ¬ len * ie.size > 2 ^ 24 := by omega
  by_cases h0 : len * ie.size = 0
  · have hm : ∀ z : Array Value, madeCells z 0 = #[] := fun z => by simp [madeCells]
    rw [h0, hm] at h
    have hr0 : ∀ f : Nat → Value, Array.map f (Array.range 0) = #[] := fun f => by simp
    simp [Instr.buildSlice, run_underlying hu, sizeOf, typeInfo, zeroValue, hie, hz, h1, h0, hr0, h, newRow]
  · have h' := h
    simp only [madeCells] at h'
    simp [Instr.buildSlice, run_underlying hu, sizeOf, typeInfo, zeroValue, hie, hz, h1, h0, h', newRow]

theorem op_buildSlice {s : S} {o : Oper} {T : TypeId} {n : Nat} {parts : Array (Nat × Operand)} {ve : DV × Eff} {s' : S} (hC : Core B0 F0 w0 s.st s.fr a w F L B) (ho : o.op = .buildSlice T n parts) (h : (dop P C env o (fun x => resolve s.st (dval s.fr x))).val = some ve) (ha : apply o.dst s ve = some s') :
    Does P o a w fun rv w' => Abs B0 F0 w0 s' (a.put o.dst rv) w' := by
  have hop : execOp a.eval o = (do pure (Next.value (← Instr.buildSlice T n (parts.map fun (i, x) => (i, a.eval x)))) : Sem Next) := by simp [execOp, ho]
  obtain ⟨hp1, hp2⟩ := parts_opd hC parts
  simp only [dop, ho] at h
  split at h <;> try (cases h; done)
  rename_i e hu
  split at h <;> try (cases h; done)
  rename_i z hz
  split at h <;> try (cases h; done)
  rename_i ds l hparts
  split at h <;> try (cases h; done)
  rename_i hc
  simp only [Bool.and_eq_true, decide_eq_true_eq, bne_iff_ne, ne_eq] at hc
  obtain ⟨⟨hsz, hpos⟩, hsmall⟩ := hc
  split at h <;> try (cases h; done)
  rename_i xs hplace
  obtain ⟨F2, c1, c2, c3, c4⟩ := partsAs_spec hC.sim _ _ _ hC (FE.refl ..) hp1 hp2 hparts
  obtain ⟨hp, _, ie, zv, hie, hzv, hzr⟩ := zeroP_spec (F := F2) (w := w) hz
  have hsz' : ie.size = z.t.size := by simpa [sized, sizeP, hie] using hsz
  obtain ⟨cells', k1, k2⟩ := fill_spec (pl := fun i => some (i * ie.size, ie.size)) (isArr := true) (t := .arr n z.t) c1.sim.froz hp c3 _ xs (madeCells zv.cells (n * ie.size)) (fun i d hm => by
    have hty := c4 i d hm
    split at hty <;> try (cases hty; done)
    rename_i hin
    simp only [Option.some.injEq] at hty
    rw [← hty]
    exact arr_part hsz' hp hin) ⟨by simp, by rw [hsz']; exact rel_made hzr n⟩ hplace
  have hrun := run_buildSlice' (P := P) (w := w) hu hie hzv (by rw [hsz']; exact hsmall) k1
  obtain ⟨hn, hrl⟩ := k2
  have hcsz : cells'.size = n * z.t.size := by have := Rel.lengthL hrl; rw [show List.length xs = n from hn] at this; simpa using this
  split at h
  · split at h <;> try (cases h; done)
    rename_i hl
    simp only [List.isEmpty_iff] at hl
    subst hl
    simp only [Cmd.val_ret, Option.some.injEq] at h
    subst h
    simp only [apply] at ha
    split at ha <;> try (cases ha; done)
    rename_i dd hdst
    split at ha <;> try (cases ha; done)
    rename_i hdp
    simp only [Option.some.injEq] at ha
    subst ha
    have hmul : n * 1 ≤ n * z.t.size := Nat.mul_le_mul_left _ (by omega)
    refine .value _ _ (by rw [hop]; exact run_v hrun) ?_
    rw [hdst]
    have hnn : List.length xs = n := hn
    obtain ⟨L', B', hcc⟩ := Core.newRow (cap := n) c1 (w1 := w) rfl (New.refl w) (xs := xs) hp (cells := cells') e (Nat.le_of_eq hnn) (by simp only [maxLen]; omega) hcsz (by
      rw [hnn, ← hcsz, List.take_of_length_le (by simp)]; exact hrl) dd hdp
    rw [hnn] at hcc
    have := hcc.abs (s := ⟨(s.fr.map (forget dd)).set dd (keyed dd (.ref 0)), s.st.put dd ⟨.own z.t, xs, true, 0⟩⟩)
    exact this
  · simp only [Cmd.val_ret, Option.some.injEq] at h
    subst h
    simp only [apply, Option.some.injEq] at ha
    subst ha
    refine .value _ _ (by rw [hop]; exact run_v hrun) ?_
    have hN := New.alloc w (.cells cells' e)
    have c5 := c1.new hN (F' := fun b j => F2 b j ∨ (b = w.heap.size ∧ j < cells'.size)) (fun _ _ h => .inl h) (fun b j h => h.elim .inl (fun h => .inr (by rw [h.1]; simp)))
    refine Core.updVal c5 ⟨_, rfl, rfl, some ⟨w.heap.size, 0, none⟩, n, cells'.toList, ?_, ?_, ?_, fun _ => ⟨w.heap.size, 0, rfl, fun j v hv => ?_⟩⟩
    · simp only [show List.length xs = n from hn]
    · exact Nat.le_of_eq hn
    · exact hrl.mono_mem fun x c b hs h => Rel.keep (fun _ _ h => .inl h) (fun b j hF => cell_of_heap (heap_alloc_old w _ b (c1.sim.froz b j hF))) _ _ _ _ (fun b' hb' => absurd (hs b' hb') (by simp)) h
    · have hj : j < cells'.size := by have := (List.getElem?_eq_some_iff.1 hv).1; simpa using this
      refine ⟨.inr ⟨rfl, by omega⟩, ?_⟩
      rw [Nat.zero_add, cell_of_row _ _ _ _ _ _ (heap_alloc_new w _), ← Array.getElem?_toList]
      exact hv

theorem op_makeSlice {s : S} {o : Oper} {T : TypeId} {x y : Operand} {ve : DV × Eff} {s' : S} (hC : Core B0 F0 w0 s.st s.fr a w F L B) (ho : o.op = .makeSlice T x y) (h : (dop P C env o (fun x => resolve s.st (dval s.fr x))).val = some ve) (ha : apply o.dst s ve = some s') :
    Does P o a w fun rv w' => Abs B0 F0 w0 s' (a.put o.dst rv) w' := by
  have hx := hC.fr.opd x
  have hy := hC.fr.opd y
  have hop : execOp a.eval o = (do pure (Next.value (← Instr.makeSlice T (a.eval x) (a.eval y))) : Sem Next) := by simp [execOp, ho]
  simp only [dop, ho] at h
  split at h <;> try (cases h; done)
  rename_i e hu
  split at h <;> try (cases h; done)
  rename_i z by_ n m hz hby e1 e2
  rw [e1] at hx
  rw [e2] at hy
  have hxv := relD_int.1 hx.rel
  have hyv := relD_int.1 hy.rel
  split at h <;> try (cases h; done)
  rename_i hc
  simp only [Bool.and_eq_true, bne_iff_ne, ne_eq] at hc
  simp only [Cmd.val_guard, Cmd.val_ret] at h
  split at h <;> try (cases h; done)
  rename_i hb
  simp only [Bool.and_eq_true, decide_eq_true_eq] at hb
  simp only [Option.some.injEq] at h
  subst h
  simp only [apply] at ha
  split at ha <;> try (cases ha; done)
  rename_i dd hdst
  split at ha <;> try (cases ha; done)
  rename_i hdp
  simp only [Option.some.injEq] at ha
  subst ha
  obtain ⟨hp, _, ie, zv, hie, hzv, hzr⟩ := zeroP_spec (F := F) (w := w) hz
  have hsz' : ie.size = z.t.size := by have := hc.1; simpa [sized, sizeP, hie] using this
  have hby' : ie.bytes = by_ := by simpa [bytesP, hie] using hby
  have hzs : zv.cells.size = z.t.size := by have := Rel.length _ _ _ _ hzr; simpa using this
  obtain ⟨⟨⟨h0, h1⟩, h2⟩, h3⟩ := hb
  have hr := run_make (P := P) w T e ie zv hu hie hzv .i64 .i64 n m h0 h1 (by rw [hby', Int.mul_comm]; exact Int.le_trans h3 (by decide)) h2
  have hnm : n.toNat ≤ m.toNat := Int.toNat_le_toNat h1
  have hmm : m.toNat ≤ maxLen := by
    have := Int.toNat_le_toNat h2
    simpa [maxLen] using this
  refine .value _ _ (by rw [hop, hxv, hyv]; exact run_v hr) ?_
  rw [hdst]
  obtain ⟨L', B', hcc⟩ := hC.newRow (w1 := w) rfl (New.refl w) (xs := List.replicate n.toNat z.x) (cap := m.toNat) hp (cells := madeCells zv.cells (m.toNat * ie.size)) e (by rw [List.length_replicate]; exact hnm) hmm (by rw [size_madeCells, hsz']) (by
    rw [List.length_replicate, hsz', take_made hzs hnm]
    exact rel_made hzr _) dd hdp
  rw [List.length_replicate] at hcc
  exact hcc.abs (s := ⟨(s.fr.map (forget dd)).set dd (keyed dd (.ref 0)), s.st.put dd ⟨.own z.t, List.replicate n.toNat z.x, true, 0⟩⟩)

/-! ### Every operation -/
theorem dop_sound {s : S} {o : Oper} {ve : DV × Eff} {s' : S} (hE : EnvOk P env) (hC : Core B0 F0 w0 s.st s.fr a w F L B) (h : (dop P C env o (fun x => resolve s.st (dval s.fr x))).val = some ve) (ha : apply o.dst s ve = some s') :
    Does P o a w fun rv w' => Abs B0 F0 w0 s' (a.put o.dst rv) w' := by
  cases ho : o.op with
  | move x => exact op_move hC (.inl ho) h ha
  | assign x => exact op_move hC (.inr ho) h ha
  | pick c x y => exact op_pick hC ho h ha
  | alloc T => exact op_alloc hC ho h ha
  | box T x => exact op_box hC ho h ha
  | build T ps => exact op_build hC ho h ha
  | buildSlice T n ps => exact op_buildSlice hC ho h ha
  | load T x => exact op_load hC ho h ha
  | store T x y => exact op_store hC ho h ha
  | nilCheck x => exact op_nilCheck hC ho h ha
  | binOp b T x y U => exact op_binOp hC ho h ha
  | unOp b T x => exact op_unOp hC ho h ha
  | convert T U x => exact op_convert hC ho h ha
  | makeSlice T x y => exact op_makeSlice hC ho h ha
  | slice T x lo hi mx => exact op_slice hC ho h ha
  | fieldAddr T x i => exact op_fieldAddr hC ho h ha
  | field T x i => exact op_field hC ho h ha
  | indexAddr T x i => exact op_indexAddr hC ho h ha
  | index T x i => exact op_index hC ho h ha
  | extract x i => exact op_extract hC ho h ha
  | call c =>
    obtain ⟨callee, args, ats⟩ := c
    cases callee with
    | builtin b =>
      have h' := h
      simp only [dop, ho] at h'
      unfold dbuiltin at h'
      split at h' <;> try (cases h'; done)
      · split at h' <;> try (cases h'; done)
        exact op_len hC ho h ha
      · rename_i r1 r2 hargs
        split at h' <;> try (cases h'; done)
        · exact op_append hC ho hargs h' ha
        · exact op_copy hC ho hargs h' ha
        · exact op_minmax (mx := false) hC ho hargs h' ha
        · exact op_minmax (mx := true) hC ho hargs h' ha
    | value x =>
      cases x with
      | func f => exact op_call hE hC ho h ha
      | _ => simp [dop, ho, Cmd.val, Cmd.run] at h
    | invoke r n => simp [dop, ho, Cmd.val, Cmd.run] at h
  | _ => simp [dop, ho, Cmd.val, Cmd.run] at h
end Go.D

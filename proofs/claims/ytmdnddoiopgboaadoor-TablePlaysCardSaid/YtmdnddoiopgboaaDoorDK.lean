/- The abstract machine D, part K: its operations are the machine's, continued. -/
import Derived.Test.YtmdnddoiopgboaaDoorDJ
namespace Go.D
set_option linter.unusedSimpArgs false
set_option linter.unusedVariables false

variable {F F' : Nat → Nat → Prop} {w w' w2 : World} {P : Program} {st st' : St} {L L' : Nat → RLoc} {B B' : Nat → List Nat} {B0 : Base} {F0 : Nat → Nat → Prop} {w0 : World}
variable {fr : List DV} {a : Act} {C : Cfg} {env : Env}

theorem datum_nil {r : RV} {v : Value} (ho : Opd F w st L r v) {d : DVal} (hd : r.datum = some (d, [])) : RelD F w d v := by
  cases r with
  | data d' => simp only [RV.datum, Option.some.injEq, Prod.mk.injEq, and_true] at hd; subst hd; exact ho.rel
  | ref k o =>
    obtain ⟨t, x, vir, z⟩ := o
    cases t <;> cases vir <;> simp [RV.datum] at hd
  | _ => simp [RV.datum] at hd
theorem datumAs_nil {r : RV} {v : Value} (ho : Opd F w st L r v) {t : Ty} {d : DVal} (hd : r.datumAs t = some (d, [])) : RelD F w d v ∧ d.t = t := by
  by_cases hr : r = .nilsl
  · subst hr
    have hv : v = .slice none 0 0 := ho.rel
    cases t <;> simp only [RV.datumAs, reduceCtorEq, Option.some.injEq, Prod.mk.injEq] at hd
    obtain ⟨rfl, _⟩ := hd
    exact ⟨⟨[v], rfl, rfl, none, 0, [], by rw [hv]; rfl, Nat.le_refl _, .nil, fun h => absurd h (by simp)⟩, rfl⟩
  · have e : r.datumAs t = (match r.datum with | some (d, l) => if d.t = t then some (d, l) else none | none => none) := by
      cases r <;> first | rfl | exact absurd rfl hr
    rw [e] at hd
    split at hd <;> try (cases hd; done)
    rename_i d' l' e1
    split at hd <;> try (cases hd; done)
    rename_i ht
    cases hd
    exact ⟨datum_nil ho e1, ht⟩

/-- a new variable -/
theorem Core.newMem (h : Core B0 F0 w0 st fr a w F L B) {t : Ty} {x : t.den} (hp : t.pure = true) {cells : Array Value} (tag : TypeId) (hr : Rel F w t x cells.toList []) (d : Nat) (hdp : d ≠ pinKey) :
    ∃ L' B', Core B0 F0 w0 (st.put d ⟨t, x, false, 0⟩) ((fr.map (forget d)).set d (.ptr d [])) (a.put (some d) (.pointer (some ⟨w.heap.size, 0, none⟩))) (w.alloc (.cells cells tag)) F L' B' :=
  ⟨_, _, h.obj (New.alloc w (.cells cells tag)) (d := d) (ob := ⟨t, x, false, 0⟩) (rl := .mem w.heap.size 0) (bs := [w.heap.size])
    ⟨hp, rfl, cells.toList, .whole (heap_alloc_new w _), Rel.keep (fun _ _ h => h) (fun b j hF => cell_of_heap (heap_alloc_old w _ b (h.sim.froz b j hF))) _ _ _ _ (by simp) hr⟩
    (by simp) hdp (dv := .ptr d []) (v := .pointer (some ⟨w.heap.size, 0, none⟩)) (fun st' L' h1 h2 => ⟨_, w.heap.size, 0, h1, rfl, trivial, by rw [h2]; exact ⟨rfl, rfl⟩⟩) rfl⟩

/-- a new row -/
theorem Core.newRow (h : Core B0 F0 w0 st fr a w F L B) {w1 : World} (hw : w1.heap = w.heap) (hn1 : New w w1) {t : Ty} {xs : List t.den} (hp : t.pure = true) {cells : Array Value} (tag : TypeId) {cap : Nat} (hc1 : xs.length ≤ cap) (hc2 : cap ≤ maxLen) (hsz : cells.size = cap * t.size)
    (hr : RelL (Rel F w t) xs (cells.toList.take (xs.length * t.size)) []) (d : Nat) (hdp : d ≠ pinKey) :
    ∃ L' B', Core B0 F0 w0 (st.put d ⟨.own t, xs, true, 0⟩) ((fr.map (forget d)).set d (.ref d)) (a.put (some d) (.slice (some ⟨w.heap.size, 0, none⟩) xs.length cap)) (w1.alloc (.cells cells tag)) F L' B' := by
  have hN : New w (w1.alloc (.cells cells tag)) := hn1.trans (New.alloc w1 _)
  have hs : w1.heap.size = w.heap.size := by rw [hw]
  refine ⟨_, _, h.obj hN (d := d) (ob := ⟨.own t, xs, true, 0⟩) (rl := .hdr (.slice (some ⟨w.heap.size, 0, none⟩) xs.length cap)) (bs := [w.heap.size])
    ⟨⟨hp, Nat.zero_le _⟩, .inr ⟨w.heap.size, cap, cells, tag, [], rfl, rfl, by rw [← hs]; exact heap_alloc_new w1 _, hc1, hc2, hsz, ?_⟩⟩
    (by simp) hdp (dv := .ref d) (v := .slice (some ⟨w.heap.size, 0, none⟩) xs.length cap) (fun st' L' h1 h2 => ⟨_, h1, rfl, h2⟩) rfl⟩
  exact hr.mono_mem fun x c b hs' h' => Rel.keep (fun _ _ h => h) (fun b j hF => cell_of_heap (hN.old b (h.sim.froz b j hF))) _ _ _ _ (fun b' hb' => absurd (hs' b' hb') (by simp)) h'

theorem op_box {s : S} {o : Oper} {T : TypeId} {x : Operand} {ve : DV × Eff} {s' : S} (hC : Core B0 F0 w0 s.st s.fr a w F L B) (ho : o.op = .box T x) (h : (dop P C env o (fun x => resolve s.st (dval s.fr x))).val = some ve) (ha : apply o.dst s ve = some s') :
    Does P o a w fun rv w' => Abs B0 F0 w0 s' (a.put o.dst rv) w' := by
  have hx := hC.fr.opd x
  simp only [dop, ho] at h
  split at h
  · rename_i k ta tb bx bz e1
    rw [e1] at hx
    simp only [Cmd.val_ret, Option.some.injEq] at h
    subst h
    simp only [apply] at ha
    split at ha <;> try (cases ha; done)
    rename_i dd hdst
    split at ha <;> try (cases ha; done)
    rename_i hdp
    simp only [Option.some.injEq] at ha
    subst ha
    simp only [Bool.or_eq_true, decide_eq_true_eq, List.contains_eq_mem, List.mem_singleton, not_or] at hdp
    obtain ⟨ob, f1, f2, f3⟩ := hx.rel
    have hk := hx.ref k _ rfl
    have hob := hC.sim.obj k _ hk
    have hth := hC.sim.thaw k _ hk
    rw [f3] at hob
    obtain ⟨hnd, cs, hv, hr⟩ := hob
    have hlt := (hC.sim.obj k _ hk).lt
    have hcells : (a.eval x).cells = cs.toArray := by rw [hv]; rfl
    refine .value (.pointer (some ⟨w.heap.size, 0, none⟩)) (w.alloc (.cells (a.eval x).cells T)) ?_ ?_
    · simp [execOp, ho, Instr.box, newVar, newRow]
    · rw [hdst]
      have hN := New.alloc w (.cells (a.eval x).cells T)
      have hold : ∀ b, b < w.heap.size → (w.alloc (.cells (a.eval x).cells T)).heap[b]? = w.heap[b]? := hN.old
      have := hC.mk' (d := dd) (ks := [k]) hN (fun k' hk' => by simp only [List.mem_singleton] at hk'; subst hk'; exact ⟨_, _, f3, hk⟩) hdp.1 (by simpa using hdp.2)
        (ob := ⟨.box (.pair ta tb), bx, true, 0⟩) (v := .pointer (some ⟨w.heap.size, 0, none⟩)) (bs := w.heap.size :: B k)
        ⟨List.nodup_cons.2 ⟨fun h => by have := hlt _ h; omega, hnd⟩, w.heap.size, _, _, B k, rfl, rfl, heap_alloc_new w _, by
          have hct : (a.eval x).cells.toList = cs := by rw [hcells]
          rw [hct]
          exact Rel.keep (fun _ _ h => h) (fun b j hF => cell_of_heap (hold b (hC.sim.froz b j hF))) _ _ _ _ (fun b hb => hold b (hlt b hb)) hr⟩
        (fun b hb => by
          rcases List.mem_cons.1 hb with rfl | hb
          · exact .inl (Nat.le_refl _)
          · exact .inr ⟨k, by simp, hb⟩)
        (fun b hb j hF => by
          rcases List.mem_cons.1 hb with rfl | hb
          · exact absurd (hC.sim.froz _ j hF) (by omega)
          · exact hth b hb j hF) rfl
      exact this.abs (s := ⟨(s.fr.map (forgets (dd :: [k]))).set dd (keyed dd (.ref 0)), (putAll ([k].map fun k => (k, deadObj)) s.st).put dd ⟨.box (.pair ta tb), bx, true, 0⟩⟩)
  split at h <;> try (cases h; done)
  rename_i d l e1
  split at h <;> try (cases h; done)
  rename_i hc
  simp only [Bool.and_eq_true, List.isEmpty_iff] at hc
  obtain ⟨rfl, hp⟩ := hc
  simp only [Cmd.val_ret, Option.some.injEq] at h
  subst h
  simp only [apply] at ha
  split at ha <;> try (cases ha; done)
  rename_i dd hdst
  split at ha <;> try (cases ha; done)
  rename_i hdp
  simp only [Option.some.injEq] at ha
  subst ha
  obtain ⟨cs, c1, c2, c3⟩ := (datum_nil hx e1).cells
  refine .value (.pointer (some ⟨w.heap.size, 0, none⟩)) (w.alloc (.cells (a.eval x).cells T)) ?_ ?_
  · simp [execOp, ho, Instr.box, newVar, newRow]
  · rw [hdst]
    obtain ⟨L', B', hc⟩ := hC.newMem hp (cells := (a.eval x).cells) T (by rw [c1]; exact c2) dd hdp
    exact hc.abs

theorem op_alloc {s : S} {o : Oper} {T : TypeId} {ve : DV × Eff} {s' : S} (hC : Core B0 F0 w0 s.st s.fr a w F L B) (ho : o.op = .alloc T) (h : (dop P C env o (fun x => resolve s.st (dval s.fr x))).val = some ve) (ha : apply o.dst s ve = some s') :
    Does P o a w fun rv w' => Abs B0 F0 w0 s' (a.put o.dst rv) w' := by
  simp only [dop, ho] at h
  split at h <;> try (cases h; done)
  rename_i d e1
  simp only [Cmd.val_ret, Option.some.injEq] at h
  subst h
  simp only [apply] at ha
  split at ha <;> try (cases ha; done)
  rename_i dd hdst
  split at ha <;> try (cases ha; done)
  rename_i hdp
  simp only [Option.some.injEq] at ha
  subst ha
  obtain ⟨hp, _, i, z, hi, hz, hr⟩ := zeroP_spec (F := F) (w := w) e1
  refine .value (.pointer (some ⟨w.heap.size, 0, none⟩)) (w.alloc (.cells z.cells T)) ?_ ?_
  · simp [execOp, ho, Instr.alloc, zeroValue, typeInfo, hi, hz, newVar, newRow]
  · rw [hdst]
    obtain ⟨L', B', hc⟩ := hC.newMem hp (cells := z.cells) T hr dd hdp
    exact hc.abs

theorem op_store {s : S} {o : Oper} {T : TypeId} {x y : Operand} {ve : DV × Eff} {s' : S} (hC : Core B0 F0 w0 s.st s.fr a w F L B) (ho : o.op = .store T x y) (h : (dop P C env o (fun x => resolve s.st (dval s.fr x))).val = some ve) (ha : apply o.dst s ve = some s') :
    Does P o a w fun rv w' => Abs B0 F0 w0 s' (a.put o.dst rv) w' := by
  have hx := hC.fr.opd x
  have hy := hC.fr.opd y
  simp only [dop, ho] at h
  split at h <;> try (cases h; done)
  rename_i k p ob e1
  rw [e1] at hx
  split at h <;> try (cases h; done)
  rename_i d e2
  split at h <;> try (cases h; done)
  rename_i hf
  simp only [Bool.and_eq_true] at hf
  split at h <;> try (cases h; done)
  rename_i ee e3
  split at h <;> try (cases h; done)
  rename_i x' e4
  have hk := hx.ptr k p ob rfl
  obtain ⟨g, oo, e5, hval, hloc⟩ := ptr_at hx.rel hk
  obtain ⟨cs, hr, hh⟩ := place_pure hC.sim hk hval hloc e2 hf.2
  obtain ⟨hrv, het⟩ := datumAs_nil hy e3
  obtain ⟨c, c1, c2, c3⟩ := hrv.cells
  obtain ⟨w2, r1, r2⟩ := store_spec (P := P) (T := T) (t := d.t) hf.1 hh (Rel.length _ _ _ _ hr) c1 (by rw [c3, het]) (Rel.ones _ _ _ _ c2)
  have hve : ve = (.und, .upd [(k, { ob with x := x' })]) ∧ (ob.vir = true → (∃ i q, p = .idx i :: q ∧ ob.fz ≤ i) ∨ ∃ q, p = .de :: q) := by
    split at h <;> try (cases h; done)
    · rename_i i q hv
      simp only [Cmd.val_guard, Cmd.val_ret] at h
      split at h <;> try (cases h; done)
      rename_i hz
      simp only [decide_eq_true_eq] at hz
      simp only [Option.some.injEq] at h
      exact ⟨h.symm, fun _ => .inl ⟨i, q, rfl, hz⟩⟩
    · rename_i q hv
      simp only [Cmd.val_ret, Option.some.injEq] at h
      exact ⟨h.symm, fun _ => .inr ⟨q, rfl⟩⟩
    · rename_i hv
      simp only [Cmd.val_ret, Option.some.injEq] at h
      exact ⟨h.symm, fun h => by rw [hv] at h; cases h⟩
  obtain ⟨rfl, hz⟩ := hve
  simp only [apply, Option.some.injEq, putAll] at ha
  subst ha
  refine .skip w2 ?_ ?_
  · simp only [execOp, ho, Instr.storeAt, e5, Instr.sureAddr]
    simp [r1]
  · exact ((hC.upd hk hval hloc e2 hf.2 e4 c2 r2 hz).value (d := .und) rfl).abs

theorem LocR.append {t : Ty} {x : t.den} {rl : RLoc} {p q : List Step} {g o g2 o2 : Nat} {d : DVal} (hg : get p t x = some d) (h1 : LocR w t rl p g o) (h2 : Loc w q d.t g o g2 o2) : LocR w t rl (p ++ q) g2 o2 := by
  cases rl with
  | mem g0 off => exact Loc.append p q t x d _ _ _ _ _ _ hg h1 h2
  | hdr v =>
    cases p with
    | nil => cases t <;> exact h1.elim
    | cons s p =>
      cases t <;> try exact h1.elim
      · cases s <;> try exact h1.elim
        obtain ⟨g1, n, c, e, h1⟩ := h1
        exact ⟨g1, n, c, e, Loc.append p q _ _ d _ _ _ _ _ _ hg h1 h2⟩
      · cases s <;> try exact h1.elim
        obtain ⟨g1, e, h1⟩ := h1
        exact ⟨g1, e, Loc.append p q _ _ d _ _ _ _ _ _ hg h1 h2⟩

theorem get_cells (hfz : ∀ b j, F b j → b < w.heap.size) {t : Ty} {x : t.den} {cs : List Value} {p : List Step} {off : Nat} {e : DVal} (h : Rel F w t x cs []) (hv : Valid p t x) (hl : ∀ (w : World) g o, Loc w p t g o g (o + off)) (hg : get p t x = some e) :
    ∃ l c r : List Value, cs = l ++ c ++ r ∧ l.length = off ∧ Rel F w e.t e.x c [] := by
  have hF1 : ∀ (o : Obj) b j, F b j → (w.alloc o).cell? ⟨b, j, none⟩ = w.cell? ⟨b, j, none⟩ := fun o b j hF => cell_of_heap (heap_alloc_old w o b (hfz b j hF))
  have hnew := heap_alloc_new w (.cells cs.toArray 0)
  have hh : HoldsAt (w.alloc (.cells cs.toArray 0)) w.heap.size 0 cs := ⟨cs.toArray, 0, [], [], hnew, by simp, rfl⟩
  have hl1 := hl (w.alloc (.cells cs.toArray 0)) w.heap.size 0
  rw [Nat.zero_add] at hl1
  obtain ⟨c, bs, k1, ⟨cur, tag, pre, post, m1, m2, m3⟩, k3⟩ := get_spec p t x cs [] _ _ _ _ e (Rel.keep (fun _ _ h => h) (hF1 _) _ _ _ _ (by simp) h) hh hv hl1 hg
  have : bs = [] := List.eq_nil_iff_forall_not_mem.2 fun b hb => by simpa using k3 b hb
  subst this
  rw [hnew] at m1
  injection m1 with m1
  injection m1 with m1 _ _
  subst m1
  exact ⟨pre, c, post, m2, m3, Rel.keep (fun _ _ h => h) (fun b j hF => (hF1 _ b j hF).symm) _ _ _ _ (by simp) k1⟩

/-- a field, of the machine and of D -/
theorem field_open {T : TypeId} {i : Nat} {t : Ty} (h : fieldOk P T i t = true) : ∃ fs f off u, P.underlying T = some (.struct fs) ∧ fs[i]? = some f ∧ fieldAt i t = some (off, u) ∧ f.offset = off ∧ sized P f.type u = true ∧ u.size ≠ 0 ∧ aggP P f.type = some u.isAgg := by
  unfold fieldOk at h
  split at h <;> try (cases h; done)
  rename_i fs hu
  split at h <;> try (cases h; done)
  rename_i f off u e1 e2
  simp only [Bool.and_eq_true, beq_iff_eq, bne_iff_ne, ne_eq] at h
  exact ⟨fs, f, off, u, hu, e1, e2, h.1.1.1, h.1.1.2, h.1.2, h.2⟩

theorem run_fieldAt {T : TypeId} {i : Nat} {fs : Array Field} {f : Field} {u : Ty} (hu : P.underlying T = some (.struct fs)) (hf : fs[i]? = some f) (hs : sized P f.type u = true) (h0 : u.size ≠ 0) (g o : Nat) :
    (Instr.fieldAt T (.pointer (some ⟨g, o, none⟩)) i).run P w = .ok (.pointer (some ⟨g, o + f.offset, none⟩)) w := by
  simp only [sized, beq_iff_eq] at hs
  simp only [Instr.fieldAt, Sem.run_bind, run_underlying hu, Result.andThen_ok, hf, Instr.sureAddr, Sem.run_pure, fieldPlace, run_sizeP hs, Sem.run_ite, h0, if_false, addr_add]

theorem op_fieldAddr {s : S} {o : Oper} {T : TypeId} {x : Operand} {i : Nat} {ve : DV × Eff} {s' : S} (hC : Core B0 F0 w0 s.st s.fr a w F L B) (ho : o.op = .fieldAddr T x i) (h : (dop P C env o (fun x => resolve s.st (dval s.fr x))).val = some ve) (ha : apply o.dst s ve = some s') :
    Does P o a w fun rv w' => Abs B0 F0 w0 s' (a.put o.dst rv) w' := by
  have hx := hC.fr.opd x
  simp only [dop, ho] at h
  split at h <;> try (cases h; done)
  · rename_i k p ob e1
    rw [e1] at hx
    split at h <;> try (cases h; done)
    rename_i d e2
    split at h <;> try (cases h; done)
    rename_i hf
    simp only [Cmd.val_ret, Option.some.injEq] at h
    subst h
    have hk := hx.ptr k p ob rfl
    obtain ⟨g, oo, e5, hval, hloc⟩ := ptr_at hx.rel hk
    obtain ⟨fs, f, off, u, hu, hfi, hfa, hoff, hsz, h0, _⟩ := field_open hf
    obtain ⟨k1, k2, k3⟩ := fieldAt_spec i d.t off u hfa
    refine .of_value hC ha (sv := Instr.fieldAt T (a.eval x) i) (by simp [execOp, ho]) (rv := .pointer (some ⟨g, oo + f.offset, none⟩)) (by rw [e5]; exact run_fieldAt hu hfi hsz h0 g oo) ?_
    exact ⟨ob, g, oo + f.offset, hk, rfl, Valid.append _ _ _ _ _ e2 hval (k2 _), LocR.append e2 hloc (by rw [hoff]; exact k3 w g oo)⟩
  · rename_i d e1
    rw [e1] at hx
    split at h <;> try (cases h; done)
    rename_i hf
    split at h <;> try (cases h; done)
    rename_i e e2
    simp only [Cmd.val_ret, Option.some.injEq] at h
    subst h
    obtain ⟨b, oo, cs, e5, hr, hc⟩ := hx.rel
    obtain ⟨fs, f, off, u, hu, hfi, hfa, hoff, hsz, h0, _⟩ := field_open hf
    obtain ⟨k1, k2, k3⟩ := fieldAt_spec i d.t off u hfa
    obtain ⟨l, c, r, m1, m2, m3⟩ := get_cells hC.sim.froz hr (k2 _) k3 e2
    refine .of_value hC ha (sv := Instr.fieldAt T (a.eval x) i) (by simp [execOp, ho]) (rv := .pointer (some ⟨b, oo + f.offset, none⟩)) (by rw [e5]; exact run_fieldAt hu hfi hsz h0 b oo) ?_
    refine ⟨b, oo + f.offset, c, rfl, m3, fun j v hv => ?_⟩
    have := hc (off + j) v (by
      rw [m1, List.append_assoc, List.getElem?_append_right (by omega)]
      have : off + j - l.length = j := by omega
      rw [this, List.getElem?_append_left (List.getElem?_eq_some_iff.1 hv).1]
      exact hv)
    rw [hoff, Nat.add_assoc]
    exact this
  · rename_i k t bx bz e1
    rw [e1] at hx
    split at h <;> try (cases h; done)
    rename_i hf
    simp only [Cmd.val_ret, Option.some.injEq] at h
    subst h
    have hk := hx.ref k _ rfl
    obtain ⟨g, e5, hloc⟩ := box_at hC.sim hx
    obtain ⟨fs, f, off, u, hu, hfi, hfa, hoff, hsz, h0, _⟩ := field_open hf
    obtain ⟨k1, k2, k3⟩ := fieldAt_spec i t off u hfa
    refine .of_value hC ha (sv := Instr.fieldAt T (a.eval x) i) (by simp [execOp, ho]) (rv := .pointer (some ⟨g, 0 + f.offset, none⟩)) (by rw [e5]; exact run_fieldAt hu hfi hsz h0 g 0) ?_
    refine ⟨_, g, 0 + f.offset, hk, rfl, ?_, ?_⟩
    · exact Valid.append [.de] _ (.box t) bx ⟨t, bx⟩ rfl trivial (k2 bx)
    · exact LocR.append (t := .box t) (x := bx) (p := [.de]) (d := ⟨t, bx⟩) rfl hloc (by rw [hoff]; exact k3 w g 0)

theorem op_field {s : S} {o : Oper} {T : TypeId} {x : Operand} {i : Nat} {ve : DV × Eff} {s' : S} (hC : Core B0 F0 w0 s.st s.fr a w F L B) (ho : o.op = .field T x i) (h : (dop P C env o (fun x => resolve s.st (dval s.fr x))).val = some ve) (ha : apply o.dst s ve = some s') :
    Does P o a w fun rv w' => Abs B0 F0 w0 s' (a.put o.dst rv) w' := by
  have hx := hC.fr.opd x
  simp only [dop, ho] at h
  split at h <;> try (cases h; done)
  rename_i d e1
  rw [e1] at hx
  split at h <;> try (cases h; done)
  rename_i hf
  split at h <;> try (cases h; done)
  rename_i e e2
  simp only [Cmd.val_ret, Option.some.injEq] at h
  subst h
  obtain ⟨fs, f, off, u, hu, hfi, hfa, hoff, hsz, h0, hag⟩ := field_open hf
  obtain ⟨k1, k2, k3⟩ := fieldAt_spec i d.t off u hfa
  obtain ⟨cs, hv, hr⟩ := hx.rel
  obtain ⟨l, c, r, m1, m2, m3⟩ := get_cells hC.sim.froz hr (k2 _) k3 e2
  have het : e.t = u := by
    have := get_at _ _ _ _ e2
    rw [k1] at this
    exact (Option.some.inj this).symm
  have hagg : d.t.isAgg = true := by
    cases hd : d.t <;> rw [hd] at hfa <;> cases i <;> simp [fieldAt] at hfa <;> rfl
  obtain ⟨rv, hrv⟩ := Val.mk_of (t := e.t) (c := c) (Rel.length _ _ _ _ m3)
  refine .of_value hC ha (sv := Instr.field T (a.eval x) i) (by simp [execOp, ho]) (rv := rv) ?_ ⟨c, hrv, m3⟩
  rw [Val.agg hagg hv]
  simp only [Instr.field, Sem.run_bind, run_underlying hu, Result.andThen_ok, hfi, asAgg, Sem.run_pure]
  exact run_part f.type cs f.offset u c rv hsz hag (by rw [← het]; exact hrv) (by rw [← het]; exact Rel.length _ _ _ _ m3) ⟨l, r, m1, by rw [m2, hoff]⟩
end Go.D

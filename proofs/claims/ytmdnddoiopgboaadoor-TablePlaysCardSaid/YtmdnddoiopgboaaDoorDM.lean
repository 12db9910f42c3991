/- The abstract machine D, part M: its operations are the machine's, continued. -/
import Derived.Test.YtmdnddoiopgboaaDoorDK
namespace Go.D
set_option linter.unusedSimpArgs false
set_option linter.unusedVariables false

variable {F F' : Nat → Nat → Prop} {w w' w2 : World} {P : Program} {st st' : St} {L L' : Nat → RLoc} {B B' : Nat → List Nat} {B0 : Base} {F0 : Nat → Nat → Prop} {w0 : World}
variable {fr : List DV} {a : Act} {C : Cfg} {env : Env}

/-- the row whose header lies at a place -/
theorem rref_at (hs : Sim B0 F w st L B) {k : Nat} {p : List Step} {ob : DObj} {v : Value} (ho : Opd F w st L (.rref k p ob) v) {t : Ty} {xs : List t.den} (hg : get p ob.t ob.x = some ⟨.own t, xs⟩) :
    ∃ g o bs, Valid p ob.t ob.x ∧ LocR w ob.t (L k) p g o ∧ w.cell? ⟨g, o, none⟩ = some v ∧ Rel F w (.own t) xs [v] bs := by
  have hk := ho.rref k p ob rfl
  obtain ⟨ob', g, o, t2, e1, e2, e3, e4, e5⟩ := ho.rel
  rw [hk] at e1
  cases e1
  obtain ⟨cs, bs, h3, h4⟩ := place_at' hs hk e3 e4 hg
  have hl : cs.length = 1 := Rel.length _ _ _ _ h3
  obtain ⟨u, rfl⟩ : ∃ u, cs = [u] := by
    cases cs with
    | nil => simp at hl
    | cons u r => cases r with
      | nil => exact ⟨u, rfl⟩
      | cons => simp at hl
  have := h4.cell 0 u rfl
  rw [Nat.add_zero, e5] at this
  cases this
  exact ⟨g, o, bs, e3, e4, e5, h3⟩

/-- the elements that an operand stands for -/
theorem elems_spec (hs : Sim B0 F w st L B) {r : RV} {v : Value} (ho : Opd F w st L r v) {t : Ty} {ys : List t.den} (he : r.elems = some ⟨t, ys⟩) : ∃ a c ms, Src F w t ys v a c ms := by
  cases r with
  | data d =>
    obtain ⟨dt, dx⟩ := d
    cases dt <;> simp only [RV.elems, reduceCtorEq, Option.some.injEq] at he
    · cases he
      obtain ⟨cs, hv, hr⟩ := ho.rel
      obtain ⟨_, a, cap, ms, e1, e2, e3, e4⟩ := hr
      simp only [Val, Ty.isAgg, Bool.false_eq_true, if_false] at hv
      rw [hv] at e1
      refine ⟨a, cap, ms, by simpa using e1, e3, fun h0 => ?_⟩
      obtain ⟨b, o, f1, f2⟩ := e4 h0
      exact ⟨b, o, f1, fun j u hu => (f2 j u hu).2⟩
  | ref k ob =>
    obtain ⟨dt, dx, vir, z⟩ := ob
    cases dt <;> cases vir <;> simp only [RV.elems, reduceCtorEq, Option.some.injEq] at he
    · cases he
      obtain ⟨_, cs, hv, hr⟩ := still_data hs (ho.ref k _ rfl) ho.rel
      obtain ⟨_, a, cap, ms, e1, e2, e3, e4⟩ := hr
      simp only [Val, Ty.isAgg, Bool.false_eq_true, if_false] at hv
      rw [hv] at e1
      refine ⟨a, cap, ms, by simpa using e1, e3, fun h0 => ?_⟩
      obtain ⟨b, o, f1, f2⟩ := e4 h0
      exact ⟨b, o, f1, fun j u hu => (f2 j u hu).2⟩
    cases he
    have hk := ho.ref k _ rfl
    obtain ⟨ob', e1, e2, e3⟩ := ho.rel
    have hob := hs.obj k _ hk
    rw [e3] at hob
    obtain ⟨⟨hp, _⟩, hr⟩ := hob
    rcases own_open hp hr with ⟨f1, f2, f3⟩ | ⟨g, cap, cur, tag, f1, f2, f3, f4, f5, f6, f7⟩
    · subst f1
      exact ⟨none, 0, [], by rw [f2]; rfl, .nil, fun h => absurd h (by simp)⟩
    · refine ⟨some ⟨g, 0, none⟩, cap, _, f1, f7.2, fun _ => ⟨g, 0, rfl, fun j u hu => ?_⟩⟩
      rw [Nat.zero_add, cell_of_row _ _ _ _ _ _ f3, ← Array.getElem?_toList]
      rw [List.getElem?_take] at hu
      split at hu
      · exact hu
      · cases hu
  | asl k p ob =>
    simp only [RV.elems] at he
    split at he <;> try (cases he; done)
    rename_i n t' xs hg
    split at he <;> try (cases he; done)
    rename_i hpt
    cases he
    have hk := ho.asl k p ob rfl
    obtain ⟨ob', g, o, m, t2, e1, e2, e3, e4, e5⟩ := ho.rel
    rw [hk] at e1
    cases e1
    have h2 := get_at _ _ _ _ hg
    rw [e2] at h2
    cases h2
    obtain ⟨cs, h3, h4⟩ := place_pure hs hk e4 e5 hg hpt
    obtain ⟨hn, h3⟩ := h3
    exact ⟨some ⟨g, o, none⟩, _, cs, by rw [e3, ← hn], h3, fun _ => ⟨g, o, rfl, fun j u hu => h4.cell j u hu⟩⟩
  | rref k p ob =>
    simp only [RV.elems] at he
    split at he <;> try (cases he; done)
    rename_i t' xs hg
    split at he <;> try (cases he; done)
    rename_i hp
    cases he
    obtain ⟨g0, o0, bs, _, _, _, hr⟩ := rref_at hs ho hg
    rcases own_open hp hr with ⟨f1, f2, f3⟩ | ⟨g, cap, cur, tag, f1, f2, f3, f4, f5, f6, f7⟩
    · subst f1
      exact ⟨none, 0, [], by rw [f2]; rfl, .nil, fun h => absurd h (by simp)⟩
    · refine ⟨some ⟨g, 0, none⟩, cap, _, f1, f7.2, fun _ => ⟨g, 0, rfl, fun j u hu => ?_⟩⟩
      rw [Nat.zero_add, cell_of_row _ _ _ _ _ _ f3, ← Array.getElem?_toList]
      rw [List.getElem?_take] at hu
      split at hu
      · exact hu
      · cases hu
  | _ => simp [RV.elems] at he

theorem foldl_bytes : ∀ (ns : List Int) (s : ByteArray), ns.foldl (fun r n => r.push (UInt8.ofNat n.toNat)) s = ⟨s.data ++ (ns.map fun n => UInt8.ofNat n.toNat).toArray⟩
  | [], s => by simp
  | n :: ns, s => by
    rw [List.foldl_cons, foldl_bytes ns]
    congr 1
    simp [ByteArray.push]

theorem relL_u8 : ∀ {xs : List Int} {ms : List Value}, RelL (Rel F w (.int .u8)) xs ms [] → ms = xs.map (Value.int .u8)
  | [], ms, h => h.unnil.1
  | x :: xs, ms, h => by
    obtain ⟨c, cs', b, bs', rfl, e, h1, h2⟩ := h.uncons
    obtain ⟨rfl, rfl⟩ : b = [] ∧ bs' = [] := by simpa using e.symm
    rw [relL_u8 h2, h1.1]
    rfl

theorem op_convert {s : S} {o : Oper} {T1 T2 : TypeId} {x : Operand} {ve : DV × Eff} {s' : S} (hC : Core B0 F0 w0 s.st s.fr a w F L B) (ho : o.op = .convert T1 T2 x) (h : (dop P C env o (fun x => resolve s.st (dval s.fr x))).val = some ve) (ha : apply o.dst s ve = some s') :
    Does P o a w fun rv w' => Abs B0 F0 w0 s' (a.put o.dst rv) w' := by
  have hx := hC.fr.opd x
  simp only [dop, ho] at h
  have hop : execOp a.eval o = (do pure (Next.value (← convert T1 T2 (a.eval x))) : Sem Next) := by simp [execOp, ho]
  split at h <;> try (cases h; done)
  · rename_i d1 k k' n h1 h2 e1
    rw [e1] at hx
    have hv := relD_int.1 hx.rel
    simp only [Cmd.val_ret, Option.some.injEq] at h
    subst h
    refine .of_value hC ha hop (rv := .int k (k.wrap n)) ?_ (relD_int.2 rfl)
    rw [hv]
    simp [convert, run_underlying h1, run_underlying h2, Conv.intToInt]
  · rename_i d1 s1 h1 h2 e1
    rw [e1] at hx
    have hv := relD_str.1 hx.rel
    simp only [Cmd.val_ret, Option.some.injEq] at h
    subst h
    refine .of_value hC ha hop (rv := .string s1) ?_ (relD_str.2 rfl)
    rw [hv]
    cases d1 <;> simp [convert, run_underlying h1, run_underlying h2]
  · rename_i e h1 h2 _
    split at h <;> try (cases h; done)
    · rename_i hu e1
      rw [e1] at hx
      have hv : a.eval x = .slice none 0 0 := hx.rel
      simp only [Cmd.val_ret, Option.some.injEq] at h
      subst h
      refine .of_value hC ha hop (rv := .string .empty) ?_ (relD_str.2 rfl)
      rw [hv, run_convert_bytes_string w T1 T2 e none 0 0 h1 hu h2]
      rfl
    · rename_i hu _
      split at h <;> try (cases h; done)
      rename_i xs e1
      simp only [Cmd.val_ret, Option.some.injEq] at h
      subst h
      obtain ⟨sa, c, ms, hsrc⟩ := elems_spec hC.sim hx e1
      refine .of_value hC ha hop (rv := .string (bytesOf xs)) ?_ (relD_str.2 rfl)
      have hms : ms = List.map (Value.int .u8) xs := relL_u8 hsrc.rel
      rw [hsrc.eq, run_convert_bytes_string w T1 T2 e sa _ c h1 hu h2]
      rcases Nat.eq_zero_or_pos (List.length xs) with h0 | h0
      · have : xs = [] := List.length_eq_zero_iff.1 h0
        subst this
        cases sa with
        | none => rfl
        | some ad =>
          have := run_bytesToString (P := P) w ad 0 c [] (by simp [loadCells, loadCellsFrom])
          exact this
      · obtain ⟨b, oo, rfl, hc⟩ := hsrc.cells h0
        have hl : ms.length = List.length xs := by rw [hms]; simp
        have hld := run_loadCells_list (P := P) w ⟨b, oo, none⟩ ms (fun j v hv => by rw [addr_add]; exact hc j v hv)
        rw [hl, hms] at hld
        have := run_bytesToString (P := P) w ⟨b, oo, none⟩ (List.length xs) c xs hld
        rw [this, foldl_bytes]
        simp [bytesOf]

theorem run_indexAt {T : TypeId} {d : TypeDesc} {e : TypeId} {n : Nat} {t : Ty} {k : IntKind} {i : Int} {v : Value} {b o : Nat} (hu : P.underlying T = some d) (hd : (d = .array n e ∧ v = .pointer (some ⟨b, o, none⟩)) ∨ (d = .slice e ∧ ∃ c, v = .slice (some ⟨b, o, none⟩) n c)) (hs : sized P e t = true)
    (h0 : 0 ≤ i) (h1 : i < (n : Int)) : (Instr.indexAt T v (.int k i)).run P w = .ok (.pointer (some ⟨b, o + i.toNat * t.size, none⟩)) w := by
  simp only [sized, beq_iff_eq] at hs
  rcases hd with ⟨rfl, rfl⟩ | ⟨rfl, c, rfl⟩
  · simp [Instr.indexAt, asIntOf, run_underlying hu, Instr.sureAddr, h0, h1, run_sizeP hs, addr_add]
  · simp [Instr.indexAt, asIntOf, run_underlying hu, h0, h1, run_sizeP hs, addr_add]

theorem idx_ok {i : Int} {n : Nat} (h0 : 0 ≤ i) (h1 : i < (n : Int)) : i.toNat < n := by omega

theorem op_indexAddr {s : S} {o : Oper} {T : TypeId} {x y : Operand} {ve : DV × Eff} {s' : S} (hC : Core B0 F0 w0 s.st s.fr a w F L B) (ho : o.op = .indexAddr T x y) (h : (dop P C env o (fun x => resolve s.st (dval s.fr x))).val = some ve) (ha : apply o.dst s ve = some s') :
    Does P o a w fun rv w' => Abs B0 F0 w0 s' (a.put o.dst rv) w' := by
  have hx := hC.fr.opd x
  have hy := hC.fr.opd y
  have hop : execOp a.eval o = (do pure (Next.value (← Instr.indexAt T (a.eval x) (a.eval y))) : Sem Next) := by simp [execOp, ho]
  simp only [dop, ho] at h
  split at h <;> try (cases h; done)
  rename_i kk i ei
  rw [ei] at hy
  have hi := relD_int.1 hy.rel
  rw [hi] at hop
  split at h <;> try (cases h; done)
  · rename_i n e k p ob hu e1
    rw [e1] at hx
    split at h <;> try (cases h; done)
    rename_i m t xs e2
    split at h <;> try (cases h; done)
    rename_i hc
    simp only [Bool.and_eq_true, decide_eq_true_eq] at hc
    obtain ⟨rfl, hsz⟩ := hc
    simp only [Cmd.val_guard, Cmd.val_ret] at h
    split at h <;> try (cases h; done)
    rename_i hb
    simp only [Bool.and_eq_true, decide_eq_true_eq] at hb
    simp only [Option.some.injEq] at h
    subst h
    have hk := hx.ptr k p ob rfl
    obtain ⟨g, oo, e5, hval, hloc⟩ := ptr_at hx.rel hk
    refine .of_value hC ha hop (rv := .pointer (some ⟨g, oo + i.toNat * t.size, none⟩)) (run_indexAt hu (.inl ⟨rfl, e5⟩) hsz hb.1 hb.2) ?_
    exact ⟨ob, g, _, hk, rfl, Valid.append _ _ _ _ _ e2 hval ⟨idx_ok hb.1 hb.2, trivial⟩, LocR.append e2 hloc ⟨rfl, rfl⟩⟩
  · rename_i n e m t xs hu e1
    rw [e1] at hx
    split at h <;> try (cases h; done)
    rename_i hc
    simp only [Bool.and_eq_true, decide_eq_true_eq] at hc
    obtain ⟨rfl, hsz⟩ := hc
    simp only [Cmd.val_guard, Cmd.val_ret] at h
    split at h <;> try (cases h; done)
    rename_i hb
    simp only [Bool.and_eq_true, decide_eq_true_eq] at hb
    simp only [Option.some.injEq] at h
    subst h
    obtain ⟨b, oo, cs, e5, hr, hc⟩ := hx.rel
    refine .of_value hC ha hop (rv := .pointer (some ⟨b, oo + i.toNat * t.size, none⟩)) (run_indexAt hu (.inl ⟨rfl, e5⟩) hsz hb.1 hb.2) ?_
    obtain ⟨hn, hr⟩ := hr
    have hlt : i.toNat < List.length xs := by rw [show List.length xs = m from hn]; exact idx_ok hb.1 hb.2
    obtain ⟨cl, c, cr, bl, b', br, m1, m2, m3, m4, m5, m6⟩ := RelL.split (sz := t.size) (fun x c b h => Rel.length t x c b h) hr i.toNat hlt
    have : b' = [] := by
      have := m2.symm
      simp at this
      exact this.2.1
    subst this
    refine ⟨b, _, c, rfl, by rw [List.getD_eq_getElem?_getD, List.getElem?_eq_getElem hlt]; exact m4, fun j v hv => ?_⟩
    rw [Nat.add_assoc]
    refine hc _ v ?_
    rw [m1, List.append_assoc, List.getElem?_append_right (by omega)]
    have : i.toNat * t.size + j - cl.length = j := by omega
    rw [this, List.getElem?_append_left (List.getElem?_eq_some_iff.1 hv).1]
    exact hv
  · rename_i e t xs hu e1
    rw [e1] at hx
    split at h <;> try (cases h; done)
    rename_i hsz
    simp only [Cmd.val_guard, Cmd.val_ret] at h
    split at h <;> try (cases h; done)
    rename_i hb
    simp only [Bool.and_eq_true, decide_eq_true_eq] at hb
    simp only [Option.some.injEq] at h
    subst h
    obtain ⟨cs, hv, _, sa, cap, ms, e2, e3, hr, e4⟩ := hx.rel
    simp only [Val, Ty.isAgg, Bool.false_eq_true, if_false] at hv
    rw [hv] at e2
    have e5 : a.eval x = .slice sa (List.length xs) cap := by simpa using e2
    have hlt : i.toNat < List.length xs := idx_ok hb.1 hb.2
    obtain ⟨b, oo, rfl, hc⟩ := e4 (by simp only; omega)
    refine .of_value hC ha hop (rv := .pointer (some ⟨b, oo + i.toNat * t.size, none⟩)) (run_indexAt hu (.inr ⟨rfl, cap, e5⟩) hsz hb.1 hb.2) ?_
    obtain ⟨cl, c, cr, bl, b', br, m1, m2, m3, m4, m5, m6⟩ := RelL.split (sz := t.size) (fun x c b h => Rel.length t x c b h) hr i.toNat hlt
    have : b' = [] := by
      have := m2.symm
      simp at this
      exact this.2.1
    subst this
    refine ⟨b, _, c, rfl, by rw [List.getD_eq_getElem?_getD, List.getElem?_eq_getElem hlt]; exact m4, fun j v hv => ?_⟩
    rw [Nat.add_assoc]
    refine hc _ v ?_
    rw [m1, List.append_assoc, List.getElem?_append_right (by omega)]
    have : i.toNat * t.size + j - cl.length = j := by omega
    rw [this, List.getElem?_append_left (List.getElem?_eq_some_iff.1 hv).1]
    exact hv
  · rename_i e k t xs z hu e1
    rw [e1] at hx
    split at h <;> try (cases h; done)
    rename_i hsz
    simp only [Cmd.val_guard, Cmd.val_ret] at h
    split at h <;> try (cases h; done)
    rename_i hb
    simp only [Bool.and_eq_true, decide_eq_true_eq] at hb
    simp only [Option.some.injEq] at h
    subst h
    have hk := hx.ref k _ rfl
    obtain ⟨ob', f1, f2, f3⟩ := hx.rel
    have hob := hC.sim.obj k _ hk
    rw [f3] at hob
    obtain ⟨⟨hp, _⟩, hr⟩ := hob
    have hlt : i.toNat < List.length xs := idx_ok hb.1 hb.2
    rcases own_open hp hr with ⟨g1, _, _⟩ | ⟨g, cap, cur, tag, g1, g2, g3, g4, g5, g6, g7⟩
    · rw [g1] at hlt; simp at hlt
    · refine .of_value hC ha hop (rv := .pointer (some ⟨g, 0 + i.toNat * t.size, none⟩)) (run_indexAt hu (.inr ⟨rfl, cap, g1⟩) hsz hb.1 hb.2) ?_
      refine ⟨_, g, _, hk, rfl, ⟨hlt, trivial⟩, ?_⟩
      rw [f3]
      exact ⟨g, _, _, g1, by rw [Nat.zero_add]; exact ⟨rfl, rfl⟩⟩
  · rename_i e k p ob hu e1
    rw [e1] at hx
    split at h <;> try (cases h; done)
    rename_i t xs hg
    split at h <;> try (cases h; done)
    rename_i hsz
    simp only [Cmd.val_guard, Cmd.val_ret] at h
    split at h <;> try (cases h; done)
    rename_i hb
    simp only [Bool.and_eq_true, decide_eq_true_eq] at hb
    simp only [Option.some.injEq] at h
    subst h
    have hk := hx.rref k p ob rfl
    obtain ⟨g0, o0, bs, hval, hloc, hcell, hr⟩ := rref_at hC.sim hx hg
    have hlt : i.toNat < List.length xs := idx_ok hb.1 hb.2
    rcases hr with ⟨g1, _, _⟩ | ⟨g, cap, cur, tag, bs', g1, g2, g3, g4, g5, g6, g7⟩
    · rw [g1] at hlt; simp at hlt
    · have g1 : a.eval x = .slice (some ⟨g, 0, none⟩) (List.length xs) cap := by simpa using g1
      refine .of_value hC ha hop (rv := .pointer (some ⟨g, 0 + i.toNat * t.size, none⟩)) (run_indexAt hu (.inr ⟨rfl, cap, g1⟩) hsz hb.1 hb.2) ?_
      refine ⟨_, g, _, hk, rfl, Valid.append p [.idx i.toNat] _ _ ⟨.own t, xs⟩ hg hval ⟨hlt, trivial⟩, LocR.append hg hloc ?_⟩
      exact ⟨g, _, cap, by rw [hcell, g1], by rw [Nat.zero_add]; exact ⟨rfl, rfl⟩⟩
end Go.D

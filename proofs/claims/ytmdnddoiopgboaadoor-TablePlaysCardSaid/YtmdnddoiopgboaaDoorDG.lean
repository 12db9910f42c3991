/- The abstract machine D, part G: memory. -/
import Derived.Test.YtmdnddoiopgboaaDoorDE
import Derived.Laws.CopyRow
namespace Go.D
set_option linter.unusedSimpArgs false
set_option linter.unusedVariables false

variable {F F' : Nat → Nat → Prop} {w w' w2 : World} {P : Program} {st st' : St} {L L' : Nat → RLoc} {B B' : Nat → List Nat} {B0 : Base} {F0 : Nat → Nat → Prop} {w0 : World}

theorem run_isAggP {T : TypeId} {b : Bool} (h : aggP P T = some b) (w : World) : (isAgg T).run P w = .ok b w := by
  unfold isAgg
  unfold aggP at h
  cases hu : P.underlying T with
  | none => simp [hu] at h
  | some d =>
    rw [hu] at h
    simp only [Sem.run_bind, run_underlying hu, Result.andThen_ok]
    cases d <;> simp at h <;> simp [← h]
theorem run_sizeP {T : TypeId} {n : Nat} (h : sizeP P T = some n) (w : World) : (sizeOf T).run P w = .ok n w := by
  simp only [sizeP, Option.map_eq_some_iff] at h
  obtain ⟨i, hi, rfl⟩ := h
  simp [sizeOf, typeInfo, hi]

theorem addr_add (b o j : Nat) : (⟨b, o, none⟩ : Addr).add j = ⟨b, o + j, none⟩ := by unfold Addr.add; split <;> simp_all

theorem load_spec {T : TypeId} {t : Ty} {b o : Nat} {cs : List Value} {v : Value} (hf : fits P T t = true) (hc : ∀ (j : Nat) (u : Value), cs[j]? = some u → w.cell? ⟨b, o + j, none⟩ = some u) (hl : cs.length = t.size) (hv : Val t v cs) :
    (loadVar T ⟨b, o, none⟩).run P w = .ok v w := by
  simp only [fits, Bool.and_eq_true, beq_iff_eq] at hf
  unfold loadVar
  simp only [Sem.run_bind, run_isAggP hf.1, Result.andThen_ok, Sem.run_ite]
  unfold Val at hv
  cases hb : t.isAgg with
  | true =>
    rw [hb, if_pos rfl] at hv
    have := run_loadCells_list (P := P) w ⟨b, o, none⟩ cs (fun j v h => by rw [addr_add]; exact hc j v h)
    simp only [if_true, run_sizeP hf.2, Result.andThen_ok, ← hl, this, Sem.run_pure, hv]
  | false =>
    rw [hb, if_neg (by simp)] at hv
    subst hv
    have := hc 0 v rfl
    simp only [Nat.add_zero] at this
    simp [this]

theorem store_spec {T : TypeId} {t : Ty} {g o : Nat} {c0 c : List Value} {v : Value} (hs : sized P T t = true) (hh : HoldsAt w g o c0) (h0 : c0.length = t.size) (hv : v.cells.toList = c) (hl : c.length = t.size) (h1 : ∀ u ∈ c, u.oneCell' = true) :
    ∃ w2, (storeVar T ⟨g, o, none⟩ v).run P w = .ok () w2 ∧ Upd w w2 g o c := by
  simp only [sized, beq_iff_eq] at hs
  obtain ⟨cur, tag, pre, post, e1, e2, e3⟩ := hh
  have hsz : cur.size = pre.length + c0.length + post.length := by
    have := congrArg List.length e2
    simp at this
    omega
  have hst := run_storeCells_at P g o tag c 0 cur w e1 (by omega) h1
  refine ⟨w.setRow g (splice cur.toList o c).toArray, ?_, ?_⟩
  · unfold storeVar
    have hvs : v.cells.size = t.size := by rw [← hl, ← hv]; simp
    simp only [Sem.run_bind, run_sizeP hs, Result.andThen_ok, hvs, ne_eq, not_true_eq_false, if_false]
    have hc : storeCells ⟨g, o, none⟩ v.cells.toList = storeCells ⟨g, o, none⟩ c 0 := by rw [hv]
    rw [hc, hst]
    rfl
  · exact ⟨rfl, rfl, rfl, by simp, fun b hb => setRow_other w g b _ hb, cur, tag, e1, setRow_heap w g cur _ tag _ e1⟩

/-! ### The state, behind an operation -/
structure Core (B0 : Base) (F0 : Nat → Nat → Prop) (w0 : World) (st : St) (fr : List DV) (a : Act) (w : World) (F : Nat → Nat → Prop) (L : Nat → RLoc) (B : Nat → List Nat) : Prop where
  sim : Sim B0 F w st L B
  fr : FR F w st L fr a
  lo : ∀ b j, F0 b j → F b j
  hi : ∀ b j, F b j → F0 b j ∨ B0.has b
  below : Below B0 w0 w
  base : B0.n ≤ w.heap.size
  defers : a.defers = []
theorem Core.abs {s : S} {a : Act} (h : Core B0 F0 w0 s.st s.fr a w F L B) : Abs B0 F0 w0 s a w :=
  ⟨⟨F, L, B, h.sim, h.fr, h.lo, h.hi⟩, h.below, h.base, h.defers⟩
theorem Abs.core {s : S} {a : Act} (h : Abs B0 F0 w0 s a w) : ∃ F L B, Core B0 F0 w0 s.st s.fr a w F L B := by
  obtain ⟨⟨F, L, B, h1, h2, h3, h4⟩, h5, h6, h7⟩ := h
  exact ⟨F, L, B, h1, h2, h3, h4, h5, h6, h7⟩
@[simp] theorem put_defers (a : Act) (dst : Option Tmp) (v : Value) : (a.put dst v).defers = a.defers := by cases dst <;> rfl

theorem Ext.refl (F : Nat → Nat → Prop) (w : World) (st : St) (L : Nat → RLoc) (dead : Option Nat) : Ext F w st L F w st L dead :=
  ⟨fun _ _ h => h, fun _ _ _ => rfl, fun _ ob _ h => ⟨ob.x, ob.fz, h, rfl, fun _ h => h, Stay.refl⟩⟩
theorem Ext.trans {F1 F2 F3 : Nat → Nat → Prop} {w1 w2 w3 : World} {s1 s2 s3 : St} {L1 L2 L3 : Nat → RLoc} {dead : Option Nat} (h : Ext F1 w1 s1 L1 F2 w2 s2 L2 dead) (k : Ext F2 w2 s2 L2 F3 w3 s3 L3 dead) : Ext F1 w1 s1 L1 F3 w3 s3 L3 dead :=
  ⟨fun b j hb => k.fm b j (h.fm b j hb), fun b j hb => (k.cell b j (h.fm b j hb)).trans (h.cell b j hb), fun i ob hi hg => by
    obtain ⟨x, z, e1, e2, e3, e4⟩ := h.obj i ob hi hg
    obtain ⟨x', z', f1, f2, f3, f4⟩ := k.obj i _ hi e1
    exact ⟨x', z', f1, f2.trans e2, fun q hq => f3 q (e3 q hq), e4.trans e3 (e2 ▸ f4)⟩⟩

/-- a value, and nothing else -/
theorem Core.value {fr : List DV} {a : Act} (h : Core B0 F0 w0 st fr a w F L B) {dst : Option Tmp} {d : DV} {v : Value} (hv : RelV F w st L d v) : Core B0 F0 w0 st (setFr fr dst d) (a.put dst v) w F L B :=
  ⟨h.sim, h.fr.next h.sim (Ext.refl ..) (fun _ _ => hv), h.lo, h.hi, h.below, h.base, by simp [h.defers]⟩

theorem ORel.keep {ob : DObj} {rl : RLoc} {bs : List Nat} (hF : ∀ b j, F b j → F' b j) (hw : ∀ b j, F b j → w'.cell? ⟨b, j, none⟩ = w.cell? ⟨b, j, none⟩) (hb : ∀ b ∈ bs, w'.heap[b]? = w.heap[b]?) (h : ORel F w ob rl bs) : ORel F' w' ob rl bs := by
  obtain ⟨t, x, vir, z⟩ := ob
  cases rl with
  | mem g off =>
    cases vir
    · obtain ⟨h1, rfl, cs, h2, h3⟩ := h
      exact ⟨h1, rfl, cs, h2.other (hb g (by simp)), Rel.keep hF hw _ _ _ _ (by simp) h3⟩
    · cases t <;> exact h.elim
  | hdr v =>
    cases vir
    · exact h.elim
    · cases t <;> try exact h.elim
      · exact h
      · obtain ⟨h1, cs, e, h2⟩ := h
        exact ⟨h1, cs, e, Rel.keep hF hw _ _ _ _ hb h2⟩
      all_goals exact ⟨h.1, Rel.keep hF hw _ _ _ _ hb h.2⟩
theorem ORel.lt {ob : DObj} {rl : RLoc} {bs : List Nat} (h : ORel F w ob rl bs) : ∀ b ∈ bs, b < w.heap.size := by
  obtain ⟨t, x, vir, z⟩ := ob
  cases rl with
  | mem g off =>
    cases vir
    · obtain ⟨h1, rfl, cs, ⟨cur, tag, pre, post, h2, _⟩, h3⟩ := h
      intro b hb
      simp only [List.mem_singleton] at hb
      subst hb
      exact (Array.getElem?_eq_some_iff.1 h2).1
    · cases t <;> exact h.elim
  | hdr v =>
    cases vir
    · exact h.elim
    · cases t <;> try exact h.elim
      · intro b hb
        rw [show bs = [] from h] at hb
        cases hb
      · obtain ⟨h1, cs, e, h2⟩ := h
        exact Rel.below _ _ _ _ h2
      all_goals exact Rel.below _ _ _ _ h.2
theorem cell_of_heap {b j : Nat} (h : w'.heap[b]? = w.heap[b]?) : w'.cell? ⟨b, j, none⟩ = w.cell? ⟨b, j, none⟩ := World.cell?_of_block (w := w) h

/-- the world has new blocks, and is else as it was -/
structure New (w w' : World) : Prop where
  os : w'.os = w.os
  tape : w'.tape = w.tape
  output : w'.output = w.output
  size : w.heap.size ≤ w'.heap.size
  old : ∀ b, b < w.heap.size → w'.heap[b]? = w.heap[b]?
theorem New.refl (w : World) : New w w := ⟨rfl, rfl, rfl, Nat.le_refl _, fun _ _ => rfl⟩
theorem New.alloc (w : World) (o : Obj) : New w (w.alloc o) := ⟨rfl, rfl, rfl, by simp, fun b hb => heap_alloc_old w o b hb⟩
theorem New.drawn (w : World) : New w { w with drawn := w.drawn + 1 } := ⟨rfl, rfl, rfl, Nat.le_refl _, fun _ _ => rfl⟩
theorem New.trans {a b c : World} (h : New a b) (k : New b c) : New a c :=
  ⟨k.os.trans h.os, k.tape.trans h.tape, k.output.trans h.output, Nat.le_trans h.size k.size, fun i hi => (k.old i (Nat.lt_of_lt_of_le hi h.size)).trans (h.old i hi)⟩
theorem New.below (h : New w w') (hb : Below B0 w0 w) (hs : B0.n ≤ w.heap.size) : Below B0 w0 w' :=
  hb.trans ⟨h.os, h.tape, h.output, h.size, fun k hk _ => h.old k (Nat.lt_of_lt_of_le hk hs)⟩

/-- new blocks alone: the state stays; what is frozen may grow by them -/
theorem Sim.new (hs : Sim B0 F w st L B) (hn : New w w') (hF : ∀ b j, F b j → F' b j) (hF' : ∀ b j, F' b j → F b j ∨ (w.heap.size ≤ b ∧ b < w'.heap.size)) : Sim B0 F' w' st L B := by
  have hc : ∀ b j, F b j → w'.cell? ⟨b, j, none⟩ = w.cell? ⟨b, j, none⟩ := fun b j h => cell_of_heap (hn.old b (hs.froz b j h))
  refine ⟨fun k ob hk => (hs.obj k ob hk).keep hF hc (fun b hb => hn.old b ((hs.obj k ob hk).lt b hb)), fun k ob hk => ?_, hs.apart, fun b j h => ?_, hs.own, hs.pin⟩
  · have ht := hs.thaw k ob hk
    have hlt := (hs.obj k ob hk).lt
    have hno : ∀ b ∈ B k, ∀ j, F' b j → F b j := fun b hb j h => (hF' b j h).elim id (fun h => absurd h.1 (by have := hlt b hb; omega))
    obtain ⟨t, x, vir, z⟩ := ob
    cases vir <;> cases t <;> simp only [Thaw] at ht ⊢ <;> first
      | exact fun b hb j h => ht b hb j (hno b hb j h)
  · rcases hF' b j h with h | h
    · exact Nat.lt_of_lt_of_le (hs.froz b j h) hn.size
    · exact h.2
theorem Ext.new (hs : Sim B0 F w st L B) (hn : New w w') (hF : ∀ b j, F b j → F' b j) (dead : Option Nat) : Ext F w st L F' w' st L dead :=
  ⟨hF, fun b j h => cell_of_heap (hn.old b (hs.froz b j h)), fun _ ob _ h => ⟨ob.x, ob.fz, h, rfl, fun _ h => h, (hs.obj _ ob h).stay fun _ b hb => hn.old b ((hs.obj _ ob h).lt b hb)⟩⟩

theorem Core.new {fr : List DV} {a : Act} (h : Core B0 F0 w0 st fr a w F L B) (hn : New w w') (hF : ∀ b j, F b j → F' b j) (hF' : ∀ b j, F' b j → F b j ∨ (w.heap.size ≤ b ∧ b < w'.heap.size)) : Core B0 F0 w0 st fr a w' F' L B :=
  ⟨h.sim.new hn hF hF', ⟨h.fr.len, fun i d hd => (h.fr.rel i d hd).ext h.sim (Ext.new h.sim hn hF none) (by simp), h.fr.glob.keep hF (Ext.new h.sim hn hF none).cell⟩, fun b j hb => hF _ _ (h.lo b j hb),
   fun b j hb => (hF' b j hb).elim (fun hb => h.hi b j hb) (fun hb => .inr (.inl (Nat.le_trans h.base hb.1))), hn.below h.below h.base, Nat.le_trans h.base hn.size, h.defers⟩

/-- a new object -/
theorem Core.objF {fr : List DV} {a : Act} (h : Core B0 F0 w0 st fr a w F L B) (hn : New w w') (hF : ∀ b j, F b j → F' b j) (hF' : ∀ b j, F' b j → F b j ∨ (w.heap.size ≤ b ∧ b < w'.heap.size)) {d : Nat} {ob : DObj} {rl : RLoc} {bs : List Nat} (ho : ORel F' w' ob rl bs) (hb : ∀ b ∈ bs, w.heap.size ≤ b) (hfr : ∀ b ∈ bs, ∀ j, ¬ F' b j) (hdp : d ≠ pinKey) {dv : DV} {v : Value}
    (hv : ∀ (st' : St) (L' : Nat → RLoc), st'.get d = some ob → L' d = rl → RelV F' w' st' L' dv v) (hfz : ob.fz = 0) :
    Core B0 F0 w0 (st.put d ob) ((fr.map (forget d)).set d dv) (a.put (some d) v) w' F' (fun k => if k = d then rl else L k) (fun k => if k = d then bs else B k) := by
  have hsn := h.sim.new hn hF hF'
  have hold : ∀ k o, st.get k = some o → ∀ b ∈ B k, b < w.heap.size := fun k o hk => (h.sim.obj k o hk).lt
  have hget : ∀ k o, k ≠ d → (st.put d ob).get k = some o → st.get k = some o := fun k o hk hg => by rwa [get_put_other ob hk] at hg
  have hsim : Sim B0 F' w' (st.put d ob) (fun k => if k = d then rl else L k) (fun k => if k = d then bs else B k) := by
    refine ⟨fun k o hk => ?_, fun k o hk => ?_, fun j k hjk hj hk => ?_, hsn.froz, fun k o hk => ?_, fun v o hv hk => by rw [if_neg (Ne.symm hdp)]; exact hsn.pin v o hv (hget _ o (Ne.symm hdp) hk)⟩
    · by_cases e : k = d
      · subst e
        rw [get_put_same] at hk
        injection hk with hk
        subst hk
        simpa using ho
      · simp only [if_neg e]
        exact hsn.obj k o (hget k o e hk)
    · by_cases e : k = d
      · subst e
        rw [get_put_same] at hk
        injection hk with hk
        subst hk
        simp only [if_pos rfl]
        obtain ⟨t, x, vir, z⟩ := ob
        cases vir <;> cases t <;> simp only [Thaw] <;> first
          | exact hfr
          | exact fun b hb j hF => absurd hF (hfr b hb j)
      · simp only [if_neg e]
        exact hsn.thaw k o (hget k o e hk)
    · by_cases e : j = d
      · subst e
        have e2 : k ≠ j := fun e => hjk e.symm
        simp only [if_pos rfl, if_neg e2]
        intro b hb' hb2
        obtain ⟨o, ho⟩ := Option.isSome_iff_exists.1 hk
        have := hold k o (hget k o e2 ho) b hb2
        have := hb b hb'
        omega
      · by_cases e2 : k = d
        · subst e2
          simp only [if_pos rfl, if_neg e]
          intro b hb' hb2
          obtain ⟨o, ho⟩ := Option.isSome_iff_exists.1 hj
          have := hold j o (hget j o e ho) b hb'
          have := hb b hb2
          omega
        · simp only [if_neg e, if_neg e2]
          exact hsn.apart j k hjk (by rwa [get_put_other ob e] at hj) (by rwa [get_put_other ob e2] at hk)
    · by_cases e : k = d
      · simp only [if_pos e]
        exact fun b hb' => .inl (Nat.le_trans h.base (hb b hb'))
      · simp only [if_neg e]
        exact hsn.own k o (hget k o e hk)
  have hext : Ext F w st L F' w' (st.put d ob) (fun k => if k = d then rl else L k) (some d) :=
    ⟨hF, fun b j hF => cell_of_heap (hn.old b (h.sim.froz b j hF)), fun k o hk hg => by
      have e : k ≠ d := fun e => hk (by rw [e])
      exact ⟨o.x, o.fz, by rw [get_put_other ob e]; exact hg, by simp [e], fun _ h => h, (h.sim.obj k o hg).stay fun _ b hb' => hn.old b (hold k o hg b hb')⟩⟩
  refine ⟨hsim, ?_, fun b j hb => hF _ _ (h.lo b j hb), fun b j hb => (hF' b j hb).elim (fun hb => h.hi b j hb) (fun hb => .inr (.inl (Nat.le_trans h.base hb.1))), hn.below h.below h.base, Nat.le_trans h.base hn.size, by simp [h.defers]⟩
  exact h.fr.nextDead h.sim hext (dst := some d) (d := dv) (fun _ _ => hv _ _ (get_put_same _ _ _) (by simp))
theorem Core.obj {fr : List DV} {a : Act} (h : Core B0 F0 w0 st fr a w F L B) (hn : New w w') {d : Nat} {ob : DObj} {rl : RLoc} {bs : List Nat} (ho : ORel F w' ob rl bs) (hb : ∀ b ∈ bs, w.heap.size ≤ b) (hdp : d ≠ pinKey) {dv : DV} {v : Value}
    (hv : ∀ (st' : St) (L' : Nat → RLoc), st'.get d = some ob → L' d = rl → RelV F w' st' L' dv v) (hfz : ob.fz = 0) :
    Core B0 F0 w0 (st.put d ob) ((fr.map (forget d)).set d dv) (a.put (some d) v) w' F (fun k => if k = d then rl else L k) (fun k => if k = d then bs else B k) :=
  h.objF hn (fun _ _ h => h) (fun _ _ h => .inl h) ho hb (fun b hb' j hF => absurd (h.sim.froz b j hF) (by have := hb b hb'; omega)) hdp hv hfz
theorem get_dead (j : Nat) : ∀ (ks : List Nat) (st : St), (putAll (ks.map fun k => (k, deadObj)) st).get j = if j ∈ ks then some deadObj else st.get j
  | [], st => by simp [putAll]
  | k :: r, st => by
    simp only [List.map_cons, putAll]
    rw [get_dead j r]
    by_cases e : j = k
    · subst e
      by_cases h : j ∈ r <;> simp [h, get_put_same]
    · by_cases h : j ∈ r <;> simp [h, e, get_put_other _ e]
/-- a new object, made of others -/
theorem Core.mk' {fr : List DV} {a : Act} (h : Core B0 F0 w0 st fr a w F L B) (hn : New w w') {ks : List Nat} (hks : ∀ k ∈ ks, ∃ v o, L k = .hdr v ∧ st.get k = some o) {d : Nat} (hdp : d ≠ pinKey) (hdk : d ∉ ks)
    {ob : DObj} {v : Value} {bs : List Nat} (ho : ORel F w' ob (.hdr v) bs) (hb : ∀ b ∈ bs, w.heap.size ≤ b ∨ ∃ k ∈ ks, b ∈ B k) (hfr : ∀ b ∈ bs, ∀ j, ¬ F b j) (hvir : ob.vir = true) :
    Core B0 F0 w0 ((putAll (ks.map fun k => (k, deadObj)) st).put d ob) ((fr.map (forgets (d :: ks))).set d (.ref d)) (a.put (some d) v) w' F (fun k => if k = d then .hdr v else L k) (fun k => if k = d then bs else if k ∈ ks then [] else B k) := by
  have hsn := h.sim.new hn (F' := F) (fun _ _ h => h) (fun _ _ h => .inl h)
  have hold : ∀ k o, st.get k = some o → ∀ b ∈ B k, b < w.heap.size := fun k o hk => (h.sim.obj k o hk).lt
  have hget : ∀ k o, k ≠ d → ((putAll (ks.map fun k => (k, deadObj)) st).put d ob).get k = some o → (k ∈ ks ∧ o = deadObj) ∨ (k ∉ ks ∧ st.get k = some o) := fun k o hk hg => by
    rw [get_put_other ob hk, get_dead] at hg
    split at hg
    · rename_i hm; exact .inl ⟨hm, (Option.some.inj hg).symm⟩
    · rename_i hm; exact .inr ⟨hm, hg⟩
  -- the new object's blocks are none of those that stay
  have hapart : ∀ k o, k ∉ ks → st.get k = some o → ∀ b ∈ bs, b ∉ B k := fun k o hk hg b hb' hbk => by
    rcases hb b hb' with h1 | ⟨k', h1, h2⟩
    · have := hold k o hg b hbk; omega
    · obtain ⟨_, o', _, h3⟩ := hks k' h1
      exact h.sim.apart k' k (fun e => hk (e ▸ h1)) (by simp [h3]) (by simp [hg]) b h2 hbk
  have hsim : Sim B0 F w' ((putAll (ks.map fun k => (k, deadObj)) st).put d ob) (fun k => if k = d then .hdr v else L k) (fun k => if k = d then bs else if k ∈ ks then [] else B k) := by
    refine ⟨fun k o hk => ?_, fun k o hk => ?_, fun j k hjk hj hk => ?_, hsn.froz, fun k o hk => ?_, fun v o hv hk => ?_⟩
    · by_cases e : k = d
      · subst e
        rw [get_put_same] at hk
        injection hk with hk
        subst hk
        simpa using ho
      · rcases hget k o e hk with ⟨h1, rfl⟩ | ⟨h1, h2⟩
        · obtain ⟨v', _, hv', _⟩ := hks k h1
          simp only [if_neg e, if_pos h1, hv']
          rfl
        · simp only [if_neg e, if_neg h1]
          exact hsn.obj k o h2
    · by_cases e : k = d
      · subst e
        rw [get_put_same] at hk
        injection hk with hk
        subst hk
        simp only [if_pos rfl]
        obtain ⟨t, x, vir, z⟩ := ob
        cases vir <;> cases t <;> simp only [Thaw] <;> first
          | exact hfr
          | exact fun b hb j hF => absurd hF (hfr b hb j)
      · rcases hget k o e hk with ⟨h1, rfl⟩ | ⟨h1, h2⟩
        · simp only [if_neg e, if_pos h1]
          intro b hb'
          cases hb'
        · simp only [if_neg e, if_neg h1]
          exact hsn.thaw k o h2
    · obtain ⟨oj, hj⟩ := Option.isSome_iff_exists.1 hj
      obtain ⟨ok, hk⟩ := Option.isSome_iff_exists.1 hk
      by_cases e : j = d
      · subst e
        have e2 : k ≠ j := fun e => hjk e.symm
        simp only [if_pos rfl, if_neg e2]
        rcases hget k ok e2 hk with ⟨h1, _⟩ | ⟨h1, h2⟩
        · simp [h1]
        · rw [if_neg h1]
          exact hapart k ok h1 h2
      · by_cases e2 : k = d
        · subst e2
          simp only [if_pos rfl, if_neg e]
          rcases hget j oj e hj with ⟨h1, _⟩ | ⟨h1, h2⟩
          · simp [h1]
          · rw [if_neg h1]
            exact fun b hb' hb2 => hapart j oj h1 h2 b hb2 hb'
        · simp only [if_neg e, if_neg e2]
          rcases hget k ok e2 hk with ⟨h1, _⟩ | ⟨h1, h2⟩
          · simp [h1]
          · rcases hget j oj e hj with ⟨h3, _⟩ | ⟨h3, h4⟩
            · simp [h3]
            · rw [if_neg h1, if_neg h3]
              exact hsn.apart j k hjk (by simp [h4]) (by simp [h2])
    · by_cases e : k = d
      · simp only [if_pos e]
        intro b hb'
        rcases hb b hb' with h1 | ⟨k', h1, h2⟩
        · exact .inl (Nat.le_trans h.base h1)
        · obtain ⟨_, o', _, h3⟩ := hks k' h1
          exact h.sim.own k' o' h3 b h2
      · rcases hget k o e hk with ⟨h1, _⟩ | ⟨h1, h2⟩
        · simp [e, h1]
        · simp only [if_neg e, if_neg h1]
          exact hsn.own k o h2
    · rw [if_neg (Ne.symm hdp)]
      rcases hget _ o (Ne.symm hdp) hk with ⟨h1, _⟩ | ⟨h1, h2⟩
      · obtain ⟨_, o', _, hp⟩ := hks _ h1
        exact h.sim.pin v o' hv hp
      · exact h.sim.pin v o hv h2
  refine ⟨hsim, ⟨by simp [Act.put, h.fr.len], fun i d' hd => ?_, h.fr.glob.keep (fun _ _ h => h) (fun b j hF => cell_of_heap (hn.old b (h.sim.froz b j hF)))⟩, h.lo, h.hi, hn.below h.below h.base, Nat.le_trans h.base hn.size, by simp [h.defers]⟩
  rw [List.getElem?_set] at hd
  simp only [Act.put, Array.getD_eq_getD_getElem?, Array.getElem?_setIfInBounds]
  split at hd
  · rename_i e
    subst e
    split at hd <;> try (cases hd; done)
    rename_i hlt
    simp only [Option.some.injEq] at hd
    subst hd
    rw [if_pos rfl, if_pos (by rw [← h.fr.len]; simpa using hlt)]
    exact ⟨ob, get_put_same _ _ _, hvir, by simp⟩
  · rename_i e
    rw [if_neg e, ← Array.getD_eq_getD_getElem?]
    rw [List.getElem?_map, Option.map_eq_some_iff] at hd
    obtain ⟨d0, hd, rfl⟩ := hd
    refine RelV.extK (ks := d :: ks) (fun _ _ h => h) (fun b j hF => cell_of_heap (hn.old b (h.sim.froz b j hF))) (fun k o hk hg => ?_) (forgets_key _ d0) (forgets_rel (h.fr.rel i d0 hd))
    simp only [List.mem_cons, not_or] at hk
    refine ⟨by rw [get_put_other _ hk.1, get_dead, if_neg hk.2]; exact hg, by simp [hk.1], (h.sim.obj k o hg).stay fun _ b hb' => hn.old b (hold k o hg b hb')⟩
end Go.D

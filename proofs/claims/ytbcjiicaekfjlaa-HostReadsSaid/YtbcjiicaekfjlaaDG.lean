/- The abstract machine D, part G: memory. -/
import Derived.Test.YtbcjiicaekfjlaaDE
import Derived.Laws.CopyRow
namespace Go.D
open Go.RowKit (Below)
set_option linter.unusedSimpArgs false
set_option linter.unusedVariables false

variable {F F' : Nat → Nat → Prop} {w w' w2 : World} {P : Program} {st st' : St} {L L' : Nat → RLoc} {B B' : Nat → List Nat} {B0 : Nat} {F0 : Nat → Nat → Prop} {w0 : World}

theorem run_isAggP {T : TypeId} {b : Bool} (h : aggP P T = some b) (w : World) : (isAgg T).run P w = .ok b w := by
  unfold isAgg
  unfold aggP at h
  cases hu : P.underlying T with
  | none => simp [hu] at h
  | some d =>
    rw [hu] at h
    simp only [Sem.run_bind, run_underlying hu, Result.andThen_ok]
    cases d <;> simp at h <;> simp [← h]
theorem run_sizeP {T : TypeId} {n : Nat} (h : sizeP P T = some n) (w : World) : (sizeOf T).run P w = .ok n w := by
  simp only [sizeP, Option.map_eq_some_iff] at h
  obtain ⟨i, hi, rfl⟩ := h
  simp [sizeOf, typeInfo, hi]

theorem addr_add (b o j : Nat) : (⟨b, o, none⟩ : Addr).add j = ⟨b, o + j, none⟩ := by unfold Addr.add; split <;> simp_all

theorem load_spec {T : TypeId} {t : Ty} {b o : Nat} {cs : List Value} {v : Value} (hf : fits P T t = true) (hc : ∀ (j : Nat) (u : Value), cs[j]? = some u → w.cell? ⟨b, o + j, none⟩ = some u) (hl : cs.length = t.size) (hv : Val t v cs) :
    (loadVar T ⟨b, o, none⟩).run P w = .ok v w := by
  simp only [fits, Bool.and_eq_true, beq_iff_eq] at hf
  unfold loadVar
  simp only [Sem.run_bind, run_isAggP hf.1, Result.andThen_ok, Sem.run_ite]
  unfold Val at hv
  cases hb : t.isAgg with
  | true =>
    rw [hb, if_pos rfl] at hv
    have := run_loadCells_list (P := P) w ⟨b, o, none⟩ cs (fun j v h => by rw [addr_add]; exact hc j v h)
    simp only [if_true, run_sizeP hf.2, Result.andThen_ok, ← hl, this, Sem.run_pure, hv]
  | false =>
    rw [hb, if_neg (by simp)] at hv
    subst hv
    have := hc 0 v rfl
    simp only [Nat.add_zero] at this
    simp [this]

theorem store_spec {T : TypeId} {t : Ty} {g o : Nat} {c0 c : List Value} {v : Value} (hs : sized P T t = true) (hh : HoldsAt w g o c0) (h0 : c0.length = t.size) (hv : v.cells.toList = c) (hl : c.length = t.size) (h1 : ∀ u ∈ c, u.oneCell' = true) :
    ∃ w2, (storeVar T ⟨g, o, none⟩ v).run P w = .ok () w2 ∧ Upd w w2 g o c := by
  simp only [sized, beq_iff_eq] at hs
  obtain ⟨cur, tag, pre, post, e1, e2, e3⟩ := hh
  have hsz : cur.size = pre.length + c0.length + post.length := by
    have := congrArg List.length e2
    simp at this
    omega
  have hst := run_storeCells_at P g o tag c 0 cur w e1 (by omega) h1
  refine ⟨w.setRow g (splice cur.toList o c).toArray, ?_, ?_⟩
  · unfold storeVar
    have hvs : v.cells.size = t.size := by rw [← hl, ← hv]; simp
    simp only [Sem.run_bind, run_sizeP hs, Result.andThen_ok, hvs, ne_eq, not_true_eq_false, if_false]
    have hc : storeCells ⟨g, o, none⟩ v.cells.toList = storeCells ⟨g, o, none⟩ c 0 := by rw [hv]
    rw [hc, hst]
    rfl
  · exact ⟨rfl, rfl, rfl, by simp, fun b hb => setRow_other w g b _ hb, cur, tag, e1, setRow_heap w g cur _ tag _ e1⟩

/-! ### The state, behind an operation -/
structure Core (B0 : Nat) (F0 : Nat → Nat → Prop) (w0 : World) (st : St) (fr : List DV) (a : Act) (w : World) (F : Nat → Nat → Prop) (L : Nat → RLoc) (B : Nat → List Nat) : Prop where
  sim : Sim B0 F w st L B
  fr : FR F w st L fr a
  lo : ∀ b j, F0 b j → F b j
  hi : ∀ b j, F b j → F0 b j ∨ B0 ≤ b
  below : Below B0 w0 w
  base : B0 ≤ w.heap.size
  defers : a.defers = []
theorem Core.abs {s : S} {a : Act} (h : Core B0 F0 w0 s.st s.fr a w F L B) : Abs B0 F0 w0 s a w :=
  ⟨⟨F, L, B, h.sim, h.fr, h.lo, h.hi⟩, h.below, h.base, h.defers⟩
theorem Abs.core {s : S} {a : Act} (h : Abs B0 F0 w0 s a w) : ∃ F L B, Core B0 F0 w0 s.st s.fr a w F L B := by
  obtain ⟨⟨F, L, B, h1, h2, h3, h4⟩, h5, h6, h7⟩ := h
  exact ⟨F, L, B, h1, h2, h3, h4, h5, h6, h7⟩
@[simp] theorem put_defers (a : Act) (dst : Option Tmp) (v : Value) : (a.put dst v).defers = a.defers := by cases dst <;> rfl

theorem Ext.refl (F : Nat → Nat → Prop) (w : World) (st : St) (L : Nat → RLoc) (dead : Option Nat) : Ext F w st L F w st L dead :=
  ⟨fun _ _ h => h, fun _ _ _ => rfl, fun _ ob _ h => ⟨ob.x, ob.fz, h, rfl, fun _ h => h, Stay.refl⟩⟩
theorem Ext.trans {F1 F2 F3 : Nat → Nat → Prop} {w1 w2 w3 : World} {s1 s2 s3 : St} {L1 L2 L3 : Nat → RLoc} {dead : Option Nat} (h : Ext F1 w1 s1 L1 F2 w2 s2 L2 dead) (k : Ext F2 w2 s2 L2 F3 w3 s3 L3 dead) : Ext F1 w1 s1 L1 F3 w3 s3 L3 dead :=
  ⟨fun b j hb => k.fm b j (h.fm b j hb), fun b j hb => (k.cell b j (h.fm b j hb)).trans (h.cell b j hb), fun i ob hi hg => by
    obtain ⟨x, z, e1, e2, e3, e4⟩ := h.obj i ob hi hg
    obtain ⟨x', z', f1, f2, f3, f4⟩ := k.obj i _ hi e1
    exact ⟨x', z', f1, f2.trans e2, fun q hq => f3 q (e3 q hq), e4.trans e3 (e2 ▸ f4)⟩⟩

/-- a value, and nothing else -/
theorem Core.value {fr : List DV} {a : Act} (h : Core B0 F0 w0 st fr a w F L B) {dst : Option Tmp} {d : DV} {v : Value} (hv : RelV F w st L d v) : Core B0 F0 w0 st (setFr fr dst d) (a.put dst v) w F L B :=
  ⟨h.sim, h.fr.next h.sim (Ext.refl ..) (fun _ _ => hv), h.lo, h.hi, h.below, h.base, by simp [h.defers]⟩

theorem ORel.keep {ob : DObj} {rl : RLoc} {bs : List Nat} (hF : ∀ b j, F b j → F' b j) (hw : ∀ b j, F b j → w'.cell? ⟨b, j, none⟩ = w.cell? ⟨b, j, none⟩) (hb : ∀ b ∈ bs, w'.heap[b]? = w.heap[b]?) (h : ORel F w ob rl bs) : ORel F' w' ob rl bs := by
  obtain ⟨t, x, vir, z⟩ := ob
  cases rl with
  | mem g off =>
    cases vir
    · obtain ⟨h1, rfl, cs, h2, h3⟩ := h
      exact ⟨h1, rfl, cs, h2.other (hb g (by simp)), Rel.keep hF hw _ _ _ _ (by simp) h3⟩
    · cases t <;> exact h.elim
  | hdr v =>
    cases vir
    · exact h.elim
    · cases t <;> try exact h.elim
      all_goals exact ⟨h.1, Rel.keep hF hw _ _ _ _ hb h.2⟩
theorem ORel.lt {ob : DObj} {rl : RLoc} {bs : List Nat} (h : ORel F w ob rl bs) : ∀ b ∈ bs, b < w.heap.size := by
  obtain ⟨t, x, vir, z⟩ := ob
  cases rl with
  | mem g off =>
    cases vir
    · obtain ⟨h1, rfl, cs, ⟨cur, tag, pre, post, h2, _⟩, h3⟩ := h
      intro b hb
      simp only [List.mem_singleton] at hb
      subst hb
      exact (Array.getElem?_eq_some_iff.1 h2).1
    · cases t <;> exact h.elim
  | hdr v =>
    cases vir
    · exact h.elim
    · cases t <;> try exact h.elim
      all_goals exact Rel.below _ _ _ _ h.2
theorem cell_of_heap {b j : Nat} (h : w'.heap[b]? = w.heap[b]?) : w'.cell? ⟨b, j, none⟩ = w.cell? ⟨b, j, none⟩ := World.cell?_of_block (w := w) h

/-- the world has new blocks, and is else as it was -/
structure New (w w' : World) : Prop where
  os : w'.os = w.os
  tape : w'.tape = w.tape
  output : w'.output = w.output
  size : w.heap.size ≤ w'.heap.size
  old : ∀ b, b < w.heap.size → w'.heap[b]? = w.heap[b]?
theorem New.refl (w : World) : New w w := ⟨rfl, rfl, rfl, Nat.le_refl _, fun _ _ => rfl⟩
theorem New.alloc (w : World) (o : Obj) : New w (w.alloc o) := ⟨rfl, rfl, rfl, by simp, fun b hb => heap_alloc_old w o b hb⟩
theorem New.drawn (w : World) : New w { w with drawn := w.drawn + 1 } := ⟨rfl, rfl, rfl, Nat.le_refl _, fun _ _ => rfl⟩
theorem New.trans {a b c : World} (h : New a b) (k : New b c) : New a c :=
  ⟨k.os.trans h.os, k.tape.trans h.tape, k.output.trans h.output, Nat.le_trans h.size k.size, fun i hi => (k.old i (Nat.lt_of_lt_of_le hi h.size)).trans (h.old i hi)⟩
theorem New.below (h : New w w') (hb : Below B0 w0 w) (hs : B0 ≤ w.heap.size) : Below B0 w0 w' :=
  hb.trans ⟨h.os, h.tape, h.output, h.size, fun k hk => h.old k (Nat.lt_of_lt_of_le hk hs)⟩

/-- new blocks alone: the state stays; what is frozen may grow by them -/
theorem Sim.new (hs : Sim B0 F w st L B) (hn : New w w') (hF : ∀ b j, F b j → F' b j) (hF' : ∀ b j, F' b j → F b j ∨ (w.heap.size ≤ b ∧ b < w'.heap.size)) : Sim B0 F' w' st L B := by
  have hc : ∀ b j, F b j → w'.cell? ⟨b, j, none⟩ = w.cell? ⟨b, j, none⟩ := fun b j h => cell_of_heap (hn.old b (hs.froz b j h))
  refine ⟨fun k ob hk => (hs.obj k ob hk).keep hF hc (fun b hb => hn.old b ((hs.obj k ob hk).lt b hb)), fun k ob hk => ?_, hs.apart, fun b j h => ?_, hs.own⟩
  · have ht := hs.thaw k ob hk
    have hlt := (hs.obj k ob hk).lt
    have hno : ∀ b ∈ B k, ∀ j, F' b j → F b j := fun b hb j h => (hF' b j h).elim id (fun h => absurd h.1 (by have := hlt b hb; omega))
    obtain ⟨t, x, vir, z⟩ := ob
    cases vir <;> cases t <;> simp only [Thaw] at ht ⊢ <;> first
      | exact fun b hb j h => ht b hb j (hno b hb j h)
  · rcases hF' b j h with h | h
    · exact Nat.lt_of_lt_of_le (hs.froz b j h) hn.size
    · exact h.2
theorem Ext.new (hs : Sim B0 F w st L B) (hn : New w w') (hF : ∀ b j, F b j → F' b j) (dead : Option Nat) : Ext F w st L F' w' st L dead :=
  ⟨hF, fun b j h => cell_of_heap (hn.old b (hs.froz b j h)), fun _ ob _ h => ⟨ob.x, ob.fz, h, rfl, fun _ h => h, (hs.obj _ ob h).stay fun _ b hb => hn.old b ((hs.obj _ ob h).lt b hb)⟩⟩

theorem Core.new {fr : List DV} {a : Act} (h : Core B0 F0 w0 st fr a w F L B) (hn : New w w') (hF : ∀ b j, F b j → F' b j) (hF' : ∀ b j, F' b j → F b j ∨ (w.heap.size ≤ b ∧ b < w'.heap.size)) : Core B0 F0 w0 st fr a w' F' L B :=
  ⟨h.sim.new hn hF hF', ⟨h.fr.len, fun i d hd => (h.fr.rel i d hd).ext h.sim (Ext.new h.sim hn hF none) (by simp)⟩, fun b j hb => hF _ _ (h.lo b j hb),
   fun b j hb => (hF' b j hb).elim (fun hb => h.hi b j hb) (fun hb => .inr (Nat.le_trans h.base hb.1)), hn.below h.below h.base, Nat.le_trans h.base hn.size, h.defers⟩

/-- a new object -/
theorem Core.obj {fr : List DV} {a : Act} (h : Core B0 F0 w0 st fr a w F L B) (hn : New w w') {d : Nat} {ob : DObj} {rl : RLoc} {bs : List Nat} (ho : ORel F w' ob rl bs) (hb : ∀ b ∈ bs, w.heap.size ≤ b) {dv : DV} {v : Value}
    (hv : ∀ (st' : St) (L' : Nat → RLoc), st'.get d = some ob → L' d = rl → RelV F w' st' L' dv v) (hfz : ob.fz = 0) :
    Core B0 F0 w0 (st.put d ob) ((fr.map (forget d)).set d dv) (a.put (some d) v) w' F (fun k => if k = d then rl else L k) (fun k => if k = d then bs else B k) := by
  have hsn := h.sim.new hn (F' := F) (fun _ _ h => h) (fun _ _ h => .inl h)
  have hfr : ∀ b ∈ bs, ∀ j, ¬ F b j := fun b hb' j hF => absurd (h.sim.froz b j hF) (by have := hb b hb'; omega)
  have hold : ∀ k o, st.get k = some o → ∀ b ∈ B k, b < w.heap.size := fun k o hk => (h.sim.obj k o hk).lt
  have hget : ∀ k o, k ≠ d → (st.put d ob).get k = some o → st.get k = some o := fun k o hk hg => by rwa [get_put_other ob hk] at hg
  have hsim : Sim B0 F w' (st.put d ob) (fun k => if k = d then rl else L k) (fun k => if k = d then bs else B k) := by
    refine ⟨fun k o hk => ?_, fun k o hk => ?_, fun j k hjk hj hk => ?_, hsn.froz, fun k o hk => ?_⟩
    · by_cases e : k = d
      · subst e
        rw [get_put_same] at hk
        injection hk with hk
        subst hk
        simpa using ho
      · simp only [if_neg e]
        exact hsn.obj k o (hget k o e hk)
    · by_cases e : k = d
      · subst e
        rw [get_put_same] at hk
        injection hk with hk
        subst hk
        simp only [if_pos rfl]
        obtain ⟨t, x, vir, z⟩ := ob
        cases vir <;> cases t <;> simp only [Thaw] <;> first
          | exact hfr
          | exact fun b hb j hF => absurd hF (hfr b hb j)
      · simp only [if_neg e]
        exact hsn.thaw k o (hget k o e hk)
    · by_cases e : j = d
      · subst e
        have e2 : k ≠ j := fun e => hjk e.symm
        simp only [if_pos rfl, if_neg e2]
        intro b hb' hb2
        obtain ⟨o, ho⟩ := Option.isSome_iff_exists.1 hk
        have := hold k o (hget k o e2 ho) b hb2
        have := hb b hb'
        omega
      · by_cases e2 : k = d
        · subst e2
          simp only [if_pos rfl, if_neg e]
          intro b hb' hb2
          obtain ⟨o, ho⟩ := Option.isSome_iff_exists.1 hj
          have := hold j o (hget j o e ho) b hb'
          have := hb b hb2
          omega
        · simp only [if_neg e, if_neg e2]
          exact hsn.apart j k hjk (by rwa [get_put_other ob e] at hj) (by rwa [get_put_other ob e2] at hk)
    · by_cases e : k = d
      · simp only [if_pos e]
        exact fun b hb' => Nat.le_trans h.base (hb b hb')
      · simp only [if_neg e]
        exact hsn.own k o (hget k o e hk)
  have hext : Ext F w st L F w' (st.put d ob) (fun k => if k = d then rl else L k) (some d) :=
    ⟨fun _ _ h => h, fun b j hF => cell_of_heap (hn.old b (h.sim.froz b j hF)), fun k o hk hg => by
      have e : k ≠ d := fun e => hk (by rw [e])
      exact ⟨o.x, o.fz, by rw [get_put_other ob e]; exact hg, by simp [e], fun _ h => h, (h.sim.obj k o hg).stay fun _ b hb' => hn.old b (hold k o hg b hb')⟩⟩
  refine ⟨hsim, ?_, h.lo, h.hi, hn.below h.below h.base, Nat.le_trans h.base hn.size, by simp [h.defers]⟩
  exact h.fr.nextDead h.sim hext (dst := some d) (d := dv) (fun _ _ => hv _ _ (get_put_same _ _ _) (by simp))
end Go.D

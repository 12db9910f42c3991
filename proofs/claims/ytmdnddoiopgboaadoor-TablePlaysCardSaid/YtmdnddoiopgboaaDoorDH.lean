/- The abstract machine D, part H: what is written, what is frozen, what grows. -/
import Derived.Test.YtmdnddoiopgboaaDoorDG
namespace Go.D
set_option linter.unusedSimpArgs false
set_option linter.unusedVariables false

variable {F F' : Nat → Nat → Prop} {w w' w2 : World} {P : Program} {st st' : St} {L L' : Nat → RLoc} {B B' : Nat → List Nat} {B0 : Base} {F0 : Nat → Nat → Prop} {w0 : World}

theorem Loc.ge : ∀ (p : List Step) (t : Ty) (g o g' o' : Nat), t.pure = true → Loc w p t g o g' o' → g' = g ∧ o ≤ o' := by
  intro p
  induction p with
  | nil => rintro t g o g' o' _ ⟨rfl, rfl⟩; exact ⟨rfl, Nat.le_refl _⟩
  | cons s p ih =>
    intro t g o g' o' hp hl
    cases s <;> cases t <;> simp only [Loc] at hl <;> simp only [Ty.pure, Bool.and_eq_true] at hp
    · exact ih _ _ _ _ _ hp.1 hl
    · have := ih _ _ _ _ _ hp.2 hl; exact ⟨this.1, by omega⟩
    · have := ih _ _ _ _ _ hp hl; exact ⟨this.1, by omega⟩
    · cases hp
    · cases hp

/-- what a row of the frame holds: its block -/
theorem own_open {t : Ty} {xs : List t.den} {v : Value} {bs : List Nat} (hp : t.pure = true) (h : Rel F w (.own t) xs [v] bs) :
    (xs = [] ∧ v = .slice none 0 0 ∧ bs = []) ∨ ∃ g cap cur tag, v = .slice (some ⟨g, 0, none⟩) xs.length cap ∧ bs = [g] ∧ w.heap[g]? = some (.cells cur tag (0, 0)) ∧ xs.length ≤ cap ∧ cap ≤ maxLen ∧ cur.size = cap * t.size ∧
      Rel F w (.arr xs.length t) xs (cur.toList.take (xs.length * t.size)) [] := by
  rcases h with ⟨h1, h2, h3⟩ | ⟨g, cap, cur, tag, bs', h1, h2, h3, h4, h5, h6, h7⟩
  · exact .inl ⟨h1, by simpa using h2, h3⟩
  · have : bs' = [] := h7.nil_of (fun x c b h => Rel.pure t x c b hp h)
    subst this
    exact .inr ⟨g, cap, cur, tag, by simpa using h1, h2, h3, h4, h5, h6, rfl, h7⟩

/-- A store into a place. -/
theorem Core.upd {fr : List DV} {a : Act} (h : Core B0 F0 w0 st fr a w F L B) {k : Nat} {ob : DObj} (hk : st.get k = some ob) {p : List Step} {g o : Nat} (hv : Valid p ob.t ob.x) (hl : LocR w ob.t (L k) p g o)
    {u v : DVal} {x' : ob.t.den} {c : List Value} (hg : get p ob.t ob.x = some u) (hp : u.t.pure = true) (hs : set p ob.t ob.x v = some x') (hr : Rel F w v.t v.x c []) (hu : Upd w w2 g o c)
    (hz : ob.vir = true → (∃ i q, p = .idx i :: q ∧ ob.fz ≤ i) ∨ ∃ q, p = .de :: q) : Core B0 F0 w0 (st.put k { ob with x := x' }) fr a w2 F L B := by
  have ho := h.sim.obj k ob hk
  have ht := h.sim.thaw k ob hk
  -- the block is this object's, what is written isn't frozen
  have hmain : g ∈ B k ∧ (∀ j, o ≤ j → j < o + c.length → ¬ F g j) ∧ (∀ b j, F b j → w2.cell? ⟨b, j, none⟩ = w.cell? ⟨b, j, none⟩) ∧ ORel F w2 { ob with x := x' } (L k) (B k) ∧ (∀ q, Valid q ob.t ob.x → Valid q ob.t x') ∧ Stay w w2 ob.t ob.x (L k) := by
    have hstay : ob.t.isBox = false → Stay w w2 ob.t ob.x (L k) := fun hb => ho.stay fun h => by rw [hb] at h; cases h
    obtain ⟨t, x, vir, z⟩ := ob
    cases hL : L k with
    | mem g0 off =>
      rw [hL] at ho hl
      cases vir
      · obtain ⟨h1, h2, cs, h3, h4⟩ := ho
        have e := Loc.ge _ _ _ _ _ _ h1 hl
        obtain ⟨rfl, he⟩ := e
        have hnF : ∀ j, ¬ F g j := by
          have : ∀ b ∈ B k, ∀ j, ¬ F b j := by cases t <;> exact ht
          exact this g (by simp [h2])
        have hFk : ∀ b j, F b j → w2.cell? ⟨b, j, none⟩ = w.cell? ⟨b, j, none⟩ := fun b j hF => cell_of_heap (hu.other b fun e => hnF j (e ▸ hF))
        obtain ⟨cs2, k1, k2, k3⟩ := set_spec p t x cs [] g off g o u v x' c h4 h3 (by simp) (fun j _ _ => hnF j) hFk hv hl hg hp hs hr hu
        have hnb : t.isBox = false := by cases t <;> first | rfl | cases h1
        refine ⟨by simp [h2], fun j _ _ => hnF j, hFk, ⟨h1, h2, cs2, ?_, k1⟩, fun q hq => Valid.pure q t x x' h1 hq, hL ▸ hstay hnb⟩
        obtain ⟨cur, tag, pre, post, e1, e2, e3⟩ := h3
        exact ⟨_, tag, pre, post, k3 cur tag pre post e1 e2 e3, by simp, e3⟩
      · cases t <;> exact ho.elim
    | hdr hv0 =>
      rw [hL] at ho hl
      cases vir
      · exact ho.elim
      · cases t <;> try exact ho.elim
        · exact hl.elim
        · exact hl.elim
        · exact hl.elim
        rotate_left
        · rename_i t
          cases p with
          | nil => exact hl.elim
          | cons s q =>
            cases s <;> try exact hl.elim
            obtain ⟨g1, hv1, hl⟩ := hl
            obtain ⟨hnd, g2, cur, tag, bs', e1, e2, e3, e4⟩ := ho
            have e5 : hv0 = .pointer (some ⟨g2, 0, none⟩) := by simpa using e1
            rw [hv1] at e5
            injection e5 with e5
            injection e5 with e5
            injection e5 with e5 _ _
            subst e5
            rw [e2] at hnd
            have hm := Loc.mem q _ _ _ _ _ _ _ _ e4 (.whole e3) hv hl
            have hgB : g ∈ B k := by rw [e2]; exact hm
            have hnF : ∀ j, ¬ F g j := fun j => ht g hgB j
            have hFk : ∀ b j, F b j → w2.cell? ⟨b, j, none⟩ = w.cell? ⟨b, j, none⟩ := fun b j hF => cell_of_heap (hu.other b fun e => hnF j (e ▸ hF))
            have hgq : get q t x = some u := hg
            have hsq : Go.D.set q t x v = some x' := hs
            have hty := set_ty _ _ _ _ _ _ hgq hsq
            have hlen : c.length = u.t.size := by rw [Rel.length _ _ _ _ hr, hty]
            obtain ⟨cs2, k1, k2, k3⟩ := set_spec q t x cur.toList bs' g1 0 g o u v x' c e4 (.whole e3) hnd (fun j _ _ => hnF j) hFk hv hl hgq hp hsq hr hu
            have k4 := k3 cur tag [] [] e3 (by simp) rfl
            refine ⟨hgB, fun j _ _ => hnF j, hFk, ⟨by rw [e2]; exact hnd, g1, _, tag, bs', e1, e2, k4, by simpa using k1⟩, fun q' hq' => ?_, fun p' g' o' hv' hl' => ?_⟩
            · exact Valid.set (.de :: q) (.box t) x x' u v hg hp hs q' hq'
            · cases p' with
              | nil => exact hl'.elim
              | cons s' p' =>
                cases s' <;> try exact hl'.elim
                obtain ⟨g3, hv3, hl'⟩ := hl'
                rw [hv1] at hv3
                injection hv3 with hv3
                injection hv3 with hv3
                injection hv3 with hv3 _ _
                subst hv3
                obtain ⟨m1, m2⟩ := Loc.upd q t x cur.toList bs' g1 0 g o u c e4 (.whole e3) hnd hv hl hgq hp hlen hu p' g' o' hv' hl'
                exact ⟨⟨g1, hv1, m1⟩, m2⟩
        rename_i t
        obtain ⟨i, q, rfl, hzi⟩ | ⟨q, rfl⟩ := hz rfl
        rotate_left
        · exact hl.elim
        simp only at hzi
        obtain ⟨⟨h1, hzl⟩, h2⟩ := ho
        obtain ⟨hi, hvq⟩ := hv
        rcases own_open h1 h2 with ⟨e, _⟩ | ⟨g1, cap, cur, tag, e1, e2, e3, e4, e5, e6, e7⟩
        · subst e; simp at hi
        · obtain ⟨g2, n, cc, e8, hl⟩ := hl
          rw [e1] at e8
          injection e8 with e8
          injection e8 with e8
          injection e8 with e8 _ _
          subst e8
          obtain ⟨rfl, he⟩ := Loc.ge _ _ _ _ _ _ h1 hl
          have htz : ∀ j, F g j → j < z * t.size := fun j hF => ht g (by simp [e2]) j hF
          have hge : z * t.size ≤ o := Nat.le_trans (Nat.mul_le_mul_right _ hzi) he
          have hh : HoldsAt w g 0 (cur.toList.take (List.length x * t.size)) := ⟨cur, tag, [], cur.toList.drop (List.length x * t.size), e3, by simp, rfl⟩
          have hwhole : o + c.length ≤ cur.size := by
            have hg2 : get (.idx i :: q) (.arr (List.length x) t) x = some u := hg
            obtain ⟨cs', bs', k1, k2, _⟩ := get_spec (.idx i :: q) (.arr (List.length x) t) x _ [] g 0 g o u e7 hh ⟨hi, hvq⟩ (by simpa [Loc] using hl) hg2
            have hlen : c.length = cs'.length := by
              rw [Rel.length _ _ _ _ hr, Rel.length _ _ _ _ k1]
              have hs2 : set (.idx i :: q) (.arr (List.length x) t) x v = some x' := hs
              rw [set_ty _ _ _ _ _ _ hg2 hs2]
            have := k2.fits hlen
            rw [e3] at this
            simpa using this
          have hnF : ∀ j, o ≤ j → j < o + c.length → ¬ F g j := fun j hj _ hF => by have := htz j hF; omega
          have hFk : ∀ b j, F b j → w2.cell? ⟨b, j, none⟩ = w.cell? ⟨b, j, none⟩ := fun b j hF => hu.cell b j (by
            by_cases e : b = g
            · subst e; have := htz j hF; exact .inr (.inl (by omega))
            · exact .inl e) (by rw [e3]; simpa using hwhole)
          obtain ⟨cs2, k1, k2, k3⟩ := set_spec (.idx i :: q) (.arr (List.length x) t) x _ [] g 0 g o u v x' c e7 hh (by simp) hnF hFk ⟨hi, hvq⟩ (by simpa [Loc] using hl) hg hp hs hr hu
          have k4 := k3 cur tag [] (cur.toList.drop (List.length x * t.size)) e3 (by simp) rfl
          have hlx : List.length x' = List.length x := by obtain ⟨e, _⟩ := k1; exact e
          have hlc : cs2.length = List.length x * t.size := by rw [Rel.length _ _ _ _ k1]; rfl
          refine ⟨by simp [e2], hnF, hFk, ⟨⟨h1, by simp only; rw [hlx]; exact hzl⟩, .inr ⟨g, cap, _, tag, [], by rw [hlx]; simp [e1], e2, k4, by rw [hlx]; exact e4, e5, ?_, ?_⟩⟩, fun q hq => ?_, hL ▸ hstay rfl⟩
          · have hmul : List.length x * t.size ≤ cap * t.size := Nat.mul_le_mul_right _ e4
            simp only [List.nil_append, List.size_toArray, List.length_append, List.length_drop, Array.length_toList, hlc, e6]
            omega
          · rw [hlx]
            simp only [List.nil_append]
            rw [← hlc, List.take_left]
            exact k1.2
          · cases q with
            | nil => trivial
            | cons s q =>
              cases s <;> try exact hq.elim
              exact ⟨by rw [hlx]; exact hq.1, Valid.pure _ _ _ _ h1 hq.2⟩
  obtain ⟨m1, m2, m3, m4, m5, m6⟩ := hmain
  have hother : ∀ j ob', j ≠ k → st.get j = some ob' → ∀ b ∈ B j, w2.heap[b]? = w.heap[b]? := fun j ob' hj hg' b hb => hu.other b fun e => by
    subst e
    exact h.sim.apart j k hj (by simp [hg']) (by simp [hk]) b hb m1
  have hsim : Sim B0 F w2 (st.put k { ob with x := x' }) L B := by
    refine ⟨fun j ob' hj => ?_, fun j ob' hj => ?_, fun i j hij hi hj => ?_, fun b j hb => by rw [hu.size]; exact h.sim.froz b j hb, fun j ob' hj => ?_, fun v ob' hv hj => by
      by_cases e : pinKey = k
      · exact h.sim.pin v ob hv (by rw [e]; exact hk)
      · exact h.sim.pin v ob' hv (by rwa [get_put_other _ e] at hj)⟩
    · by_cases e : j = k
      · subst e
        rw [get_put_same] at hj
        injection hj with hj
        subst hj
        exact m4
      · rw [get_put_other _ e] at hj
        exact (h.sim.obj j ob' hj).keep (fun _ _ h => h) m3 (hother j ob' e hj)
    · by_cases e : j = k
      · subst e
        rw [get_put_same] at hj
        injection hj with hj
        subst hj
        obtain ⟨t, x, vir, z⟩ := ob
        cases vir <;> cases t <;> exact ht
      · rw [get_put_other _ e] at hj
        exact h.sim.thaw j ob' hj
    · have : ∀ j, (St.get j (st.put k { ob with x := x' })).isSome = true → (st.get j).isSome = true := fun j hj => by
        by_cases e : j = k
        · subst e; simp [hk]
        · rwa [get_put_other _ e] at hj
      exact h.sim.apart i j hij (this i hi) (this j hj)
    · by_cases e : j = k
      · subst e
        exact h.sim.own j ob hk
      · rw [get_put_other _ e] at hj
        exact h.sim.own j ob' hj
  have hext : Ext F w st L F w2 (st.put k { ob with x := x' }) L none := ⟨fun _ _ h => h, m3, fun j ob' _ hj => by
    by_cases e : j = k
    · subst e
      rw [hk] at hj
      injection hj with hj
      subst hj
      exact ⟨x', ob.fz, get_put_same _ _ _, rfl, m5, m6⟩
    · exact ⟨ob'.x, ob'.fz, by rw [get_put_other _ e]; exact hj, rfl, fun _ h => h, (h.sim.obj j ob' hj).stay fun _ => hother j ob' e hj⟩⟩
  have hbel : Below B0 w0 w2 := h.below.trans ⟨hu.os, hu.tape, hu.output, by rw [hu.size]; exact Nat.le_refl _, fun b hb ho => hu.other b fun e => by
    subst e
    rcases h.sim.own k ob hk b m1 with h' | h'
    · omega
    · exact ho h'⟩
  exact ⟨hsim, ⟨h.fr.len, fun i d hd => (h.fr.rel i d hd).ext h.sim hext (by simp), h.fr.glob.keep hext.fm hext.cell⟩, h.lo, h.hi, hbel, by rw [hu.size]; exact h.base, h.defers⟩

/-- A row's elements are frozen: they are data from now on. -/
theorem Core.freeze {fr : List DV} {a : Act} (h : Core B0 F0 w0 st fr a w F L B) {k : Nat} {t : Ty} {xs : List t.den} {z : Nat} (hk : st.get k = some ⟨.own t, xs, true, z⟩) {v : Value} (hv : RelV F w st L (.ref k) v) :
    ∃ F', Core B0 F0 w0 (st.put k ⟨.own t, xs, true, xs.length⟩) fr a w F' L B ∧ Ext F w st L F' w (st.put k ⟨.own t, xs, true, xs.length⟩) L none ∧ RelD F' w ⟨.sl t, xs⟩ v := by
  obtain ⟨ob, e1, e2, e3⟩ := hv
  rw [hk] at e1
  injection e1 with e1
  subst e1
  have ho := h.sim.obj k _ hk
  have ht := h.sim.thaw k _ hk
  rw [e3] at ho
  obtain ⟨⟨h1, hz⟩, h2⟩ := ho
  refine ⟨fun b j => F b j ∨ (b ∈ B k ∧ j < xs.length * t.size), ?_, ?_, ?_⟩
  · have hlt := (h.sim.obj k _ hk).lt
    have hsim : Sim B0 (fun b j => F b j ∨ (b ∈ B k ∧ j < xs.length * t.size)) w (st.put k ⟨.own t, xs, true, xs.length⟩) L B := by
      refine ⟨fun j ob' hj => ?_, fun j ob' hj => ?_, fun i j hij hi hj => ?_, fun b j hb => hb.elim (h.sim.froz b j) (fun hb => hlt b hb.1), fun j ob' hj => ?_, fun v ob' hv hj => by
        by_cases e : pinKey = k
        · exact h.sim.pin v _ hv (by rw [e]; exact hk)
        · exact h.sim.pin v ob' hv (by rwa [get_put_other _ e] at hj)⟩
      · by_cases e : j = k
        · subst e
          rw [get_put_same] at hj
          injection hj with hj
          subst hj
          rw [e3]
          exact ⟨⟨h1, Nat.le_refl _⟩, Rel.keep (fun _ _ h => .inl h) (fun _ _ _ => rfl) _ _ _ _ (fun _ _ => rfl) h2⟩
        · rw [get_put_other _ e] at hj
          exact (h.sim.obj j ob' hj).keep (fun _ _ h => .inl h) (fun _ _ _ => rfl) (fun _ _ => rfl)
      · by_cases e : j = k
        · subst e
          rw [get_put_same] at hj
          injection hj with hj
          subst hj
          intro b hb i hF
          rcases hF with hF | hF
          · exact Nat.lt_of_lt_of_le (ht b hb i hF) (Nat.mul_le_mul_right _ hz)
          · exact hF.2
        · rw [get_put_other _ e] at hj
          have ht' := h.sim.thaw j ob' hj
          have hno : ∀ b ∈ B j, ∀ i, (F b i ∨ (b ∈ B k ∧ i < xs.length * t.size)) → F b i := fun b hb i hF => hF.elim id fun hF =>
            absurd hF.1 (h.sim.apart j k e (by simp [hj]) (by simp [hk]) b hb)
          obtain ⟨t', x', vir, z'⟩ := ob'
          cases vir <;> cases t' <;> simp only [Thaw] at ht' ⊢ <;> exact fun b hb i hF => ht' b hb i (hno b hb i hF)
      · have : ∀ j, (St.get j (st.put k ⟨.own t, xs, true, xs.length⟩)).isSome = true → (st.get j).isSome = true := fun j hj => by
          by_cases e : j = k
          · subst e; simp [hk]
          · rwa [get_put_other _ e] at hj
        exact h.sim.apart i j hij (this i hi) (this j hj)
      · by_cases e : j = k
        · subst e
          exact h.sim.own j _ hk
        · rw [get_put_other _ e] at hj
          exact h.sim.own j ob' hj
    have hext : Ext F w st L (fun b j => F b j ∨ (b ∈ B k ∧ j < xs.length * t.size)) w (st.put k ⟨.own t, xs, true, xs.length⟩) L none :=
      ⟨fun _ _ h => .inl h, fun _ _ _ => rfl, fun j ob' _ hj => by
        by_cases e : j = k
        · subst e
          rw [hk] at hj
          injection hj with hj
          subst hj
          exact ⟨xs, xs.length, get_put_same _ _ _, rfl, fun _ h => h, Stay.refl⟩
        · exact ⟨ob'.x, ob'.fz, by rw [get_put_other _ e]; exact hj, rfl, fun _ h => h, Stay.refl⟩⟩
    exact ⟨hsim, ⟨h.fr.len, fun i d hd => (h.fr.rel i d hd).ext h.sim hext (by simp), h.fr.glob.keep hext.fm hext.cell⟩, fun b j hb => .inl (h.lo b j hb), fun b j hb => hb.elim (h.hi b j) (fun hb => .inr (h.sim.own k _ hk b hb.1)), h.below, h.base, h.defers⟩
  · exact ⟨fun _ _ h => .inl h, fun _ _ _ => rfl, fun j ob' _ hj => by
      by_cases e : j = k
      · subst e
        rw [hk] at hj
        injection hj with hj
        subst hj
        exact ⟨xs, xs.length, get_put_same _ _ _, rfl, fun _ h => h, Stay.refl⟩
      · exact ⟨ob'.x, ob'.fz, by rw [get_put_other _ e]; exact hj, rfl, fun _ h => h, Stay.refl⟩⟩
  · refine ⟨[v], rfl, rfl, ?_⟩
    rcases own_open h1 h2 with ⟨e, e4, _⟩ | ⟨g, cap, cur, tag, e4, e5, e6, e7, e8, e9, e10⟩
    · subst e e4
      exact ⟨none, 0, [], rfl, Nat.le_refl _, .nil, fun h => absurd h (by simp)⟩
    · have hl : (cur.toList.take (xs.length * t.size)).length = xs.length * t.size := by
        have := Rel.length _ _ _ _ e10
        simpa [Ty.size] using this
      refine ⟨some ⟨g, 0, none⟩, cap, cur.toList.take (xs.length * t.size), by rw [e4], e7, ?_, fun _ => ⟨g, 0, rfl, fun j u hu => ?_⟩⟩
      · obtain ⟨_, e10⟩ := e10
        exact e10.mono_mem fun x c b hs h => Rel.keep (fun _ _ h => .inl h) (fun _ _ _ => rfl) _ _ _ _ (fun _ _ => rfl) h
      · have hj : j < (cur.toList.take (xs.length * t.size)).length := (List.getElem?_eq_some_iff.1 hu).1
        refine ⟨.inr ⟨by simp [e5], by omega⟩, ?_⟩
        rw [Nat.zero_add, cell_of_row _ _ _ _ _ _ e6, ← Array.getElem?_toList]
        rw [List.getElem?_take] at hu
        split at hu
        · exact hu
        · cases hu

/-! ### Growing -/
theorem run_append_in {ts : Array TypeId} {ty T e : TypeId} {i : TypeInfo} (h0 : ts[0]? = some T) (h1 : ts[1]? = some T) (ht : P.underlying T = some (.slice e)) (hi : P.info? e = some i) {g n cap : Nat} {cur : Array Value} {tag : TypeId}
    (hg : w.heap[g]? = some (.cells cur tag (0, 0))) {a : Option Addr} {m c : Nat} {news : List Value} (hl : news.length = m * i.size) (hn : ∀ w', w'.heap = w.heap → (Builtin.firstCells i.size m (.slice a m c)).run P w' = .ok news.toArray w') (h2 : ∀ u ∈ news, u.oneCell' = true)
    (hroom : n + m ≤ cap) (hfit : n * i.size + news.length ≤ cur.size) :
    (Builtin.append_ ts ty #[.slice (some ⟨g, 0, none⟩) n cap, .slice a m c]).run P w =
      .ok (.slice (some ⟨g, 0, none⟩) (n + m) cap) (w.setRow g (splice cur.toList (n * i.size) news).toArray) := by
  have hst := run_storeCells_at P g (n * i.size) tag news 0 cur w hg (by simpa using hfit) h2
  simp only [Nat.add_zero] at hst
  have hs0 : ts[0]?.getD 0 = T := by simp [h0]
  simp [Builtin.append_, h0, h1, run_underlying ht, sizeOf, typeInfo, hi, Builtin.lenOf, hroom, hn w rfl, Addr.add_lit, hst, splice]
theorem run_append_out {ts : Array TypeId} {ty T e : TypeId} {i : TypeInfo} {z : Value} (h0 : ts[0]? = some T) (h1 : ts[1]? = some T) (ht : P.underlying T = some (.slice e)) (hi : P.info? e = some i) (hz : i.zero = some z) {b : Option Addr} {n cap : Nat} {olds : List Value}
    (hlo : olds.length = n * i.size) (ho : ∀ w', w'.heap = w.heap → (Builtin.firstCells i.size n (.slice b n cap)).run P w' = .ok olds.toArray w') {a : Option Addr} {m c : Nat} {news : List Value} (hl : news.length = m * i.size)
    (hn : ∀ w', w'.heap = w.heap → (Builtin.firstCells i.size m (.slice a m c)).run P w' = .ok news.toArray w') (hroom : cap < n + m) (h63 : n + m ≤ 9223372036854775807) (hfit : (n + m) * i.bytes ≤ 140737488355328) :
    (Builtin.append_ ts ty #[.slice b n cap, .slice a m c]).run P w =
      .ok (.slice (some ⟨w.heap.size, 0, none⟩) (n + m) (grownCap w (n + m) cap e))
        (w.drew.alloc (.cells (olds ++ news ++ (Builtin.zeroCells z.cells (grownCap w (n + m) cap e - (n + m))).toList).toArray e)) := by
  have hf := growslice_fits (need := n + m) (old := cap) (bytes := i.bytes) hroom hfit
  have hn1 : ¬ (n + m ≤ cap) := by omega
  have h63' : ¬ (9223372036854775807 < ((n : Int) + (m : Int))) := by omega
  have h48' : ¬ (281474976710656 < Builtin.nextslicecap (n + m) cap * i.bytes) := by omega
  simp [Builtin.append_, h0, h1, run_underlying ht, sizeOf, typeInfo, zeroValue, hi, hz, Builtin.lenOf, hn1, h63', h48', Question.forced, hn w.drew rfl, ho w.drew rfl, newRow, grownCap]
  congr 2
  apply Array.ext'
  simp
theorem run_append_none {ts : Array TypeId} {ty T e : TypeId} {i : TypeInfo} (h0 : ts[0]? = some T) (h1 : ts[1]? = some T) (ht : P.underlying T = some (.slice e)) (hi : P.info? e = some i) {a : Option Addr} {c : Nat}
    (hn : (Builtin.firstCells i.size 0 (.slice a 0 c)).run P w = .ok #[] w) :
    (Builtin.append_ ts ty #[.slice none 0 0, .slice a 0 c]).run P w = .ok (.slice none 0 0) w := by
  simp [Builtin.append_, h0, h1, run_underlying ht, sizeOf, typeInfo, hi, Builtin.lenOf, hn]

/-- a row of elements that can be read: where its cells lie -/
structure Src (F : Nat → Nat → Prop) (w : World) (t : Ty) (ys : List t.den) (v : Value) (a : Option Addr) (c : Nat) (ms : List Value) : Prop where
  eq : v = .slice a ys.length c
  rel : RelL (Rel F w t) ys ms []
  cells : 0 < ys.length → ∃ b o, a = some ⟨b, o, none⟩ ∧ ∀ (j : Nat) (u : Value), ms[j]? = some u → w.cell? ⟨b, o + j, none⟩ = some u
theorem Src.first {t : Ty} {ys : List t.den} {v : Value} {a : Option Addr} {c : Nat} {ms : List Value} (h : Src F w t ys v a c ms) {w' : World} (hw : w'.heap = w.heap) : (Builtin.firstCells t.size ys.length (.slice a ys.length c)).run P w' = .ok ms.toArray w' := by
  have hl : ms.length = ys.length * t.size := Rel.lengthL h.rel
  rcases Nat.eq_zero_or_pos ys.length with h0 | h0
  · have : ms = [] := List.length_eq_zero_iff.1 (by rw [hl, h0]; simp)
    subst this
    rw [h0]
    cases a <;> simp [Builtin.firstCells, loadCells, loadCellsFrom]
  · obtain ⟨b, o, rfl, hc⟩ := h.cells h0
    exact run_firstCells_some (P := P) w' t.size ys.length ⟨b, o, none⟩ ys.length c ms hl (fun j u hu => by rw [addr_add, World.cell?_of_block (w := w) (by rw [hw])]; exact hc j u hu)

/-- a row that has grown: its header is another one -/
theorem Core.regrow {fr : List DV} {a : Act} (h : Core B0 F0 w0 st fr a w F L B) {k : Nat} {t : Ty} {xs xs' : List t.den} {z : Nat} (hk : st.get k = some ⟨.own t, xs, true, z⟩) (hkp : k ≠ pinKey) {v' : Value} {bs' : List Nat}
    (hos : w'.os = w.os) (htape : w'.tape = w.tape) (hout : w'.output = w.output) (hsize : w.heap.size ≤ w'.heap.size) (hold : ∀ b, b < w.heap.size → b ∉ B k → w'.heap[b]? = w.heap[b]?) (hF : ∀ b j, F b j → w'.cell? ⟨b, j, none⟩ = w.cell? ⟨b, j, none⟩)
    (ho : ORel F w' ⟨.own t, xs', true, z⟩ (.hdr v') bs') (hb : ∀ b ∈ bs', b ∈ B k ∨ w.heap.size ≤ b) {dst : Option Tmp} :
    Core B0 F0 w0 (st.put k ⟨.own t, xs', true, z⟩) (setFr (fr.map (forget k)) dst (.ref k)) (a.put dst v') w' F (fun j => if j = k then .hdr v' else L j) (fun j => if j = k then bs' else B j) ∧
      Ext F w st L F w' (st.put k ⟨.own t, xs', true, z⟩) (fun j => if j = k then .hdr v' else L j) (some k) ∧ (fun j => if j = k then RLoc.hdr v' else L j) k = .hdr v' := by
  have ht := h.sim.thaw k _ hk
  have hobj : ∀ j o, j ≠ k → st.get j = some o → ∀ b ∈ B j, w'.heap[b]? = w.heap[b]? := fun j o hj hg b hb' =>
    hold b ((h.sim.obj j o hg).lt b hb') (h.sim.apart j k hj (by simp [hg]) (by simp [hk]) b hb')
  have hget : ∀ j o, j ≠ k → (st.put k ⟨.own t, xs', true, z⟩).get j = some o → st.get j = some o := fun j o hj hg => by rwa [get_put_other _ hj] at hg
  have hsim : Sim B0 F w' (st.put k ⟨.own t, xs', true, z⟩) (fun j => if j = k then .hdr v' else L j) (fun j => if j = k then bs' else B j) := by
    refine ⟨fun j o hj => ?_, fun j o hj => ?_, fun i j hij hi hj => ?_, fun b j hF' => Nat.lt_of_lt_of_le (h.sim.froz b j hF') hsize, fun j o hj => ?_, fun v o hv hj => by rw [if_neg (Ne.symm hkp)]; exact h.sim.pin v o hv (hget _ o (Ne.symm hkp) hj)⟩
    · by_cases e : j = k
      · subst e
        rw [get_put_same] at hj
        injection hj with hj
        subst hj
        simpa using ho
      · simp only [if_neg e]
        have hg := hget j o e hj
        exact (h.sim.obj j o hg).keep (fun _ _ h => h) hF (hobj j o e hg)
    · by_cases e : j = k
      · subst e
        rw [get_put_same] at hj
        injection hj with hj
        subst hj
        rw [if_pos rfl]
        intro b hb' i hF'
        rcases hb b hb' with hb' | hb'
        · exact ht b hb' i hF'
        · exact absurd (h.sim.froz b i hF') (by omega)
      · rw [if_neg e]
        exact h.sim.thaw j o (hget j o e hj)
    · by_cases e : i = k
      · subst e
        have e2 : j ≠ i := fun e => hij e.symm
        rw [if_pos rfl, if_neg e2]
        intro b hb' hb2
        obtain ⟨o, ho'⟩ := Option.isSome_iff_exists.1 hj
        have hg := hget j o e2 ho'
        rcases hb b hb' with hb' | hb'
        · exact h.sim.apart i j hij (by simp [hk]) (by simp [hg]) b hb' hb2
        · have := (h.sim.obj j o hg).lt b hb2
          omega
      · by_cases e2 : j = k
        · subst e2
          rw [if_pos rfl, if_neg e]
          intro b hb' hb2
          obtain ⟨o, ho'⟩ := Option.isSome_iff_exists.1 hi
          have hg := hget i o e ho'
          rcases hb b hb2 with hb2 | hb2
          · exact h.sim.apart i j hij (by simp [hg]) (by simp [hk]) b hb' hb2
          · have := (h.sim.obj i o hg).lt b hb'
            omega
        · rw [if_neg e, if_neg e2]
          exact h.sim.apart i j hij (by rwa [get_put_other _ e] at hi) (by rwa [get_put_other _ e2] at hj)
    · by_cases e : j = k
      · rw [if_pos e]
        intro b hb'
        rcases hb b hb' with hb' | hb'
        · exact h.sim.own k _ hk b hb'
        · exact .inl (Nat.le_trans h.base hb')
      · rw [if_neg e]
        exact h.sim.own j o (hget j o e hj)
  have hext : Ext F w st L F w' (st.put k ⟨.own t, xs', true, z⟩) (fun j => if j = k then .hdr v' else L j) (some k) :=
    ⟨fun _ _ h => h, hF, fun j o hj hg => by
      have e : j ≠ k := fun e => hj (by rw [e])
      exact ⟨o.x, o.fz, by rw [get_put_other _ e]; exact hg, by simp [e], fun _ h => h, (h.sim.obj j o hg).stay fun _ => hobj j o e hg⟩⟩
  have hbel : Below B0 w0 w' := h.below.trans ⟨hos, htape, hout, hsize, fun b hb' ho => hold b (Nat.lt_of_lt_of_le hb' h.base) (fun hm => by
    rcases h.sim.own k _ hk b hm with h' | h'
    · omega
    · exact ho h')⟩
  refine ⟨⟨hsim, ?_, h.lo, h.hi, hbel, Nat.le_trans h.base hsize, by simp [h.defers]⟩, hext, by simp⟩
  exact h.fr.nextDead h.sim hext (fun _ _ => ⟨_, get_put_same _ _ _, rfl, by simp⟩)

theorem Core.app {fr : List DV} {a : Act} (h : Core B0 F0 w0 st fr a w F L B) {k : Nat} {t : Ty} {xs ys : List t.den} {zf : Nat} (hk : st.get k = some ⟨.own t, xs, true, zf⟩) (hkp : k ≠ pinKey) {v vs : Value} (hv : RelV F w st L (.ref k) v)
    {sa : Option Addr} {c : Nat} {ms : List Value} (hs : Src F w t ys vs sa c ms) {ts : Array TypeId} {ty T e : TypeId} {i : TypeInfo} {z : Value} (h0 : ts[0]? = some T) (h1 : ts[1]? = some T) (ht : P.underlying T = some (.slice e)) (hi : P.info? e = some i) (hz : i.zero = some z)
    (hsz : i.size = t.size) (hzs : z.cells.size = t.size) (hpos : 0 < t.size) (h63 : xs.length + ys.length ≤ 9223372036854775807) (hfit : (xs.length + ys.length) * i.bytes ≤ 140737488355328) (dst : Option Tmp) :
    ∃ v' w' L' B', (Builtin.append_ ts ty #[v, vs]).run P w = .ok v' w' ∧ Core B0 F0 w0 (st.put k ⟨.own t, xs ++ ys, true, zf⟩) (setFr (fr.map (forget k)) dst (.ref k)) (a.put dst v') w' F L' B' ∧ Ext F w st L F w' (st.put k ⟨.own t, xs ++ ys, true, zf⟩) L' (some k) ∧ L' k = .hdr v' := by
  have hL : L k = .hdr v := by
    obtain ⟨ob, e1, _, e3⟩ := hv
    exact e3
  have ho := h.sim.obj k _ hk
  rw [hL] at ho
  obtain ⟨⟨hp, hzl⟩, hr⟩ := ho
  have hms : ms.length = ys.length * t.size := Rel.lengthL hs.rel
  have hones : ∀ u ∈ ms, u.oneCell' = true := Rel.ones (F := F) (w := w) (.arr ys.length t) ys ms [] ⟨rfl, hs.rel⟩
  have hfc : ∀ w', w'.heap = w.heap → (Builtin.firstCells i.size ys.length (.slice sa ys.length c)).run P w' = .ok ms.toArray w' := fun w' hw => by rw [hsz]; exact hs.first hw
  have hxy : ((xs ++ ys : List t.den)).length = xs.length + ys.length := List.length_append
  have hnewF : ∀ (o : Obj) b j, F b j → (w.drew.alloc o).cell? ⟨b, j, none⟩ = w.cell? ⟨b, j, none⟩ := fun o b j hF => cell_of_heap (heap_alloc_old w.drew o b (h.sim.froz b j hF))
  -- a new array
  have grown : ∀ (old : List Value) (cap : Nat), old.length = xs.length * t.size → RelL (Rel F w t) xs old [] → cap < xs.length + ys.length →
      ORel F (w.drew.alloc (.cells (old ++ ms ++ (Builtin.zeroCells z.cells (grownCap w (xs.length + ys.length) cap e - (xs.length + ys.length))).toList).toArray e)) ⟨.own t, xs ++ ys, true, zf⟩
        (.hdr (.slice (some ⟨w.heap.size, 0, none⟩) (xs.length + ys.length) (grownCap w (xs.length + ys.length) cap e))) [w.heap.size] := by
    intro old cap hol hor hlt
    have hge := grownCap_ge w (xs.length + ys.length) cap e
    have hle := grownCap_le_maxLen w (xs.length + ys.length) cap e (by simp only [maxLen]; omega)
    refine ⟨⟨hp, by rw [hxy]; omega⟩, .inr ⟨w.heap.size, _, _, e, [], by rw [hxy], rfl, heap_alloc_new w.drew _, by rw [hxy]; exact hge, hle, ?_, ?_⟩⟩
    · simp only [List.size_toArray, List.length_append, Array.length_toList, size_zeroCells, hzs, hol, hms, ← Nat.add_mul]
      congr 1
      omega
    · have hcut : List.take ((xs ++ ys : List t.den).length * t.size) (old ++ ms ++ (Builtin.zeroCells z.cells (grownCap w (xs.length + ys.length) cap e - (xs.length + ys.length))).toList).toArray.toList = old ++ ms := by
        have : (xs ++ ys : List t.den).length * t.size = (old ++ ms).length := by rw [hxy, List.length_append, hol, hms, Nat.add_mul]
        rw [this]
        exact List.take_left
      rw [hcut]
      have hrl : RelL (Rel F w t) (xs ++ ys) (old ++ ms) [] := by simpa using hor.append hs.rel
      exact hrl.mono_mem fun x c b hs' h' => Rel.keep (fun _ _ h => h) (fun b j hF => hnewF _ b j hF) _ _ _ _ (fun b' hb' => absurd (hs' b' hb') (by simp)) h'
  have fin : ∀ (old : List Value) (cap : Nat), old.length = xs.length * t.size → RelL (Rel F w t) xs old [] → cap < xs.length + ys.length →
      ∃ L' B', Core B0 F0 w0 (st.put k ⟨.own t, xs ++ ys, true, zf⟩) (setFr (fr.map (forget k)) dst (.ref k)) (a.put dst (.slice (some ⟨w.heap.size, 0, none⟩) (xs.length + ys.length) (grownCap w (xs.length + ys.length) cap e)))
        (w.drew.alloc (.cells (old ++ ms ++ (Builtin.zeroCells z.cells (grownCap w (xs.length + ys.length) cap e - (xs.length + ys.length))).toList).toArray e)) F L' B' ∧ Ext F w st L F (w.drew.alloc (.cells (old ++ ms ++ (Builtin.zeroCells z.cells (grownCap w (xs.length + ys.length) cap e - (xs.length + ys.length))).toList).toArray e)) (st.put k ⟨.own t, xs ++ ys, true, zf⟩) L' (some k) ∧ L' k = .hdr (.slice (some ⟨w.heap.size, 0, none⟩) (xs.length + ys.length) (grownCap w (xs.length + ys.length) cap e)) := fun old cap hol hor hlt =>
    ⟨_, _, h.regrow (w' := w.drew.alloc (.cells (old ++ ms ++ (Builtin.zeroCells z.cells (grownCap w (xs.length + ys.length) cap e - (xs.length + ys.length))).toList).toArray e)) hk hkp rfl rfl rfl (by simp)
      (fun b hb _ => heap_alloc_old w.drew _ b hb) (fun b j hF => hnewF _ b j hF) (grown old cap hol hor hlt) (fun b hb => by simp at hb; exact .inr (by omega))⟩
  rw [hs.eq]
  rcases own_open hp hr with ⟨e0, e1, e2⟩ | ⟨g, cap, cur, tag, e1, e2, e3, e4, e5, e6, e7⟩
  · subst e0 e1
    rcases Nat.eq_zero_or_pos ys.length with hy | hy
    · have : ys = [] := List.length_eq_zero_iff.1 hy
      subst this
      have hm0 : ms = [] := List.length_eq_zero_iff.1 (by rw [hms]; simp)
      subst hm0
      have hfc0 := hfc w rfl
      rw [List.length_nil] at hfc0 ⊢
      exact ⟨_, w, _, _, run_append_none h0 h1 ht hi hfc0, h.regrow (xs' := [] ++ []) (bs' := []) hk hkp rfl rfl rfl (Nat.le_refl _) (fun _ _ _ => rfl) (fun _ _ _ => rfl) ⟨⟨hp, by simpa using hzl⟩, .inl ⟨rfl, rfl, rfl⟩⟩ (by simp)⟩
    · have ho' : ∀ w', w'.heap = w.heap → (Builtin.firstCells i.size (([] : List t.den)).length (.slice none 0 0)).run P w' = .ok ([] : List Value).toArray w' := fun w' _ => by simp [Builtin.firstCells]
      have hr := run_append_out (ty := ty) (olds := []) h0 h1 ht hi hz (b := none) (n := (([] : List t.den)).length) (cap := 0) (by simp) ho' (by rw [hms, hsz]) hfc (by simpa using hy) h63 hfit
      obtain ⟨L', B', hc⟩ := fin [] 0 (by simp) .nil (by simpa using hy)
      exact ⟨_, _, L', B', hr, hc⟩
  · subst e1
    have e7' := e7
    obtain ⟨_, e7⟩ := e7
    have hol : (cur.toList.take (xs.length * t.size)).length = xs.length * t.size := Rel.lengthL e7
    by_cases hroom : xs.length + ys.length ≤ cap
    · have hmul : (xs.length + ys.length) * t.size ≤ cap * t.size := Nat.mul_le_mul_right _ hroom
      have hfitc : xs.length * t.size + ms.length ≤ cur.size := by rw [hms, e6, ← Nat.add_mul]; exact hmul
      have hr := run_append_in (ty := ty) (n := xs.length) h0 h1 ht hi e3 (by rw [hms, hsz]) hfc hones hroom (by rw [hsz]; exact hfitc)
      have hup : Upd w (w.setRow g (splice cur.toList (xs.length * t.size) ms).toArray) g (xs.length * t.size) ms :=
        ⟨rfl, rfl, rfl, by simp, fun b hb => setRow_other w g b _ hb, cur, tag, e3, setRow_heap w g cur _ tag _ e3⟩
      have htw := h.sim.thaw k _ hk
      have hFc : ∀ b j, F b j → (w.setRow g (splice cur.toList (xs.length * t.size) ms).toArray).cell? ⟨b, j, none⟩ = w.cell? ⟨b, j, none⟩ := fun b j hF => hup.cell b j (by
        by_cases e : b = g
        · subst e
          have := htw b (by simp [e2]) j hF
          have := Nat.mul_le_mul_right t.size hzl
          exact .inr (.inl (by omega))
        · exact .inl e) (by rw [e3]; simpa using hfitc)
      rw [hsz] at hr
      refine ⟨_, _, _, _, hr, h.regrow (w' := w.setRow g (splice cur.toList (xs.length * t.size) ms).toArray) (xs' := xs ++ ys) (bs' := [g]) hk hkp rfl rfl rfl (by simp) (fun b _ hb => setRow_other w g b _ (fun e => hb (by simp [e, e2]))) hFc ?_ (fun b hb => .inl (by rw [e2]; exact hb))⟩
      refine ⟨⟨hp, by rw [hxy]; omega⟩, .inr ⟨g, cap, _, tag, [], by rw [hxy], rfl, setRow_heap w g cur _ tag _ e3, by rw [hxy]; exact hroom, e5, ?_, ?_⟩⟩
      · simp only [splice, List.size_toArray, List.length_append, List.length_take, List.length_drop, Array.length_toList]
        omega
      · have hcut : List.take ((xs ++ ys : List t.den).length * t.size) (splice cur.toList (xs.length * t.size) ms).toArray.toList = cur.toList.take (xs.length * t.size) ++ ms := by
          have : (xs ++ ys : List t.den).length * t.size = (cur.toList.take (xs.length * t.size) ++ ms).length := by rw [hxy, List.length_append, hol, hms, Nat.add_mul]
          rw [this]
          exact List.take_left
        rw [hcut]
        have hrl : RelL (Rel F w t) (xs ++ ys) (cur.toList.take (xs.length * t.size) ++ ms) [] := by simpa using e7.append hs.rel
        exact hrl.mono_mem fun x c b hs' h' => Rel.keep (fun _ _ h => h) hFc _ _ _ _ (fun b' hb' => absurd (hs' b' hb') (by simp)) h'
    · have hcells : ∀ (j : Nat) (u : Value), (cur.toList.take (xs.length * t.size))[j]? = some u → w.cell? ⟨g, j, none⟩ = some u := fun j u hu => by
        rw [cell_of_row _ _ _ _ _ _ e3, ← Array.getElem?_toList]
        rw [List.getElem?_take] at hu
        split at hu
        · exact hu
        · cases hu
      have ho' : ∀ w', w'.heap = w.heap → (Builtin.firstCells i.size xs.length (.slice (some ⟨g, 0, none⟩) xs.length cap)).run P w' = .ok (cur.toList.take (xs.length * t.size)).toArray w' := fun w' hw => by
        rw [hsz]
        exact run_firstCells_some (P := P) w' t.size xs.length ⟨g, 0, none⟩ xs.length cap _ hol (fun j u hu => by rw [addr_add, World.cell?_of_block (w := w) (by rw [hw]), Nat.zero_add]; exact hcells j u hu)
      have hr := run_append_out (ty := ty) h0 h1 ht hi hz (n := xs.length) (cap := cap) (by rw [hol, hsz]) ho' (by rw [hms, hsz]) hfc (by omega) h63 hfit
      obtain ⟨L', B', hc⟩ := fin _ cap hol e7 (by omega)
      exact ⟨_, _, L', B', hr, hc⟩
end Go.D

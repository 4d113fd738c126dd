/- Growing slices as results; slices.Grow. -/
import Derived.Test.YtaloefkkllebeaaDoorEn3
import Derived.Test.YtaloefkkllebeaaDoorFm1
import Derived.Test.YtaloefkkllebeaaDoorProg
import Derived.Shelf.Spec.SlicesGrow
import Derived.Test.YtaloefkkllebeaaDoorTk
set_option linter.unusedVariables false
set_option linter.unusedSimpArgs false
set_option linter.unusedSectionVars false
set_option maxRecDepth 100000
namespace Go.Sh
open Go.RowKit
section
variable {A : Type} [Atom A]
/-- A fresh block, as a growing slice at turn v: its first cells hold for good, behind them there is room. -/
theorem MRel.adopt {c : Cfg A} {X : Nat → Prop} {W0 W W' : World} {β : Adr} {m : Mem A} {ty : TypeId} {sz b cap : Nat} {vs tail : List Value} (h : MRel c X W0 β m W) (hk : Keeps W W') (ht : Top β m) (hs : sizeT c.P ty = some sz)
    (hb : W.heap.size ≤ b) (hcell : W'.heap[b]? = some (.cells (vs ++ tail).toArray ty (0, 0))) (hlen : (vs ++ tail).length = cap * sz) (hcap : cap ≤ maxLen) (v : Nat) :
    MRel c X W0 (β.grow m.length v (some b, cap) (fun a u => ∃ j, a = ⟨b, j, none⟩ ∧ vs[j]? = some u)) (m ++ [some ⟨[.mk v vs.length], ty, false⟩]) W' := by
  have hn := ht m.length (Nat.le_refl _)
  have hle : Adr.le β (β.grow m.length v (some b, cap) (fun a u => ∃ j, a = ⟨b, j, none⟩ ∧ vs[j]? = some u)) := Adr.le_grow (hn.2 v)
  have h' := h.keeps hk
  have hW0 : W0.heap.size ≤ b := Nat.le_trans h.ext.size hb
  have plain : ∀ {i b'}, (β.grow m.length v (some b, cap) (fun a u => ∃ j, a = ⟨b, j, none⟩ ∧ vs[j]? = some u)) i = some b' → β i = some b' := fun h => h
  have apart : ∀ {i b'}, β i = some b' → b' ≠ b := fun hi e => by have := h.dom _ _ hi; omega
  have vapart : ∀ {i b'}, vecIn β m i b' → b' ≠ b := fun hv e => by
    obtain ⟨cs, t, h1, _⟩ := vecIn.block h hv
    have := (Array.getElem?_eq_some_iff.1 h1).1
    omega
  have vin : ∀ {i : Nat} {blk : Blk A} {v' n l b' cap'}, nth (m ++ [some ⟨[.mk v vs.length], ty, false⟩]) i = some (some blk) → blk.vec = some (v', n, l) → (β.grow m.length v (some b, cap) (fun a u => ∃ j, a = ⟨b, j, none⟩ ∧ vs[j]? = some u)).gs i v' = some (some b', cap') →
      (i = m.length ∧ b' = b ∧ n = vs.length) ∨ (i ≠ m.length ∧ nth m i = some (some blk) ∧ β.gs i v' = some (some b', cap')) := by
    intro i blk v' n l b' cap' h1 h2 h3
    rcases append_cases i blk h1 with ⟨rfl, e⟩ | ⟨hne, hi⟩
    · obtain ⟨rfl, rfl, rfl⟩ := vec_of e h2
      rw [Adr.grow_new] at h3
      simp only [Option.some.injEq, Prod.mk.injEq] at h3
      exact .inl ⟨rfl, h3.1.symm, rfl⟩
    · rw [Adr.grow_old (fun e => hne e.1)] at h3
      exact .inr ⟨hne, hi, h3⟩
  have cellAt : ∀ j u, vs[j]? = some u → W'.cell? ⟨b, j, none⟩ = some u := by
    intro j u hj
    have e := cell_of_row W' b j _ _ _ hcell
    rw [e]
    have hjl := (List.getElem?_eq_some_iff.1 hj).1
    simp [List.getElem?_append_left hjl, hj]
  refine ⟨fun i blk hi hnv => ?_, fun i j bi bj b' li lj hi hj => ?_, h'.dom, h'.ext, h'.glob, h'.old, h'.nc, fun a u hk => ?_, fun i blk v' n l hi hv => ?_, fun i b' hv j => ?_⟩
  · rcases append_cases i blk hi with ⟨_, rfl⟩ | ⟨_, hi'⟩
    · cases hnv
    · obtain ⟨b', us, fz, h1, h2, h3, h4⟩ := h'.mem i blk hi' hnv
      exact ⟨b', us, fz, h1, h2.mono hle, h3, h4⟩
  · rcases append_cases i bi li with ⟨rfl, _⟩ | ⟨_, li'⟩
    · have := plain hi; rw [hn.1] at this; cases this
    · rcases append_cases j bj lj with ⟨rfl, _⟩ | ⟨_, lj'⟩
      · have := plain hj; rw [hn.1] at this; cases this
      · exact h.inj i j bi bj b' li' lj' hi hj
  · rcases hk with hk | ⟨j, rfl, hj⟩
    · obtain ⟨k1, k2, k3⟩ := h'.kn a u hk
      have hablk : a.block ≠ b := fun e => by
        obtain ⟨k4, _, _⟩ := h.kn a u hk
        have := cell?_lt k4
        omega
      refine ⟨k1, k2, fun i hw => ?_⟩
      rcases hw with ⟨blk, w1, w2, w3, w4⟩ | ⟨blk, v', n, l, cap', w1, w2, w3, w4⟩
      · rcases append_cases i blk w1 with ⟨_, rfl⟩ | ⟨_, hi'⟩
        · cases w2
        · exact k3 i (.inl ⟨blk, hi', w2, w3, w4⟩)
      · rcases vin w1 w2 w3 with ⟨_, e, _⟩ | ⟨_, g1, g2⟩
        · exact hablk e
        · exact k3 i (.inr ⟨blk, v', n, l, cap', g1, w2, g2, w4⟩)
    · have hjl := (List.getElem?_eq_some_iff.1 hj).1
      refine ⟨cellAt j u hj, .inl hW0, fun i hw => ?_⟩
      rcases hw with ⟨blk, w1, w2, w3, w4⟩ | ⟨blk, v', n, l, cap', w1, w2, w3, w4⟩
      · exact apart (plain w4) rfl
      · rcases vin w1 w2 w3 with ⟨_, _, e⟩ | ⟨_, g1, g2⟩
        · simp only at w4; omega
        · exact vapart ⟨blk, v', n, l, cap', g1, w2, g2⟩ rfl
  · rcases append_cases i blk hi with ⟨rfl, e⟩ | ⟨hne, hi'⟩
    · obtain ⟨rfl, rfl, rfl⟩ := vec_of e hv
      subst e
      refine ⟨hn.1, fun v' hv' => ?_, ⟨some b, cap, vs, sz, Adr.grow_new .., hs, rfl, hcap, fun b' hb' => ?_⟩, fun cap' hc => ?_⟩
      · rw [Adr.grow_old (by rintro ⟨_, rfl⟩; omega)]
        exact hn.2 v'
      · obtain rfl := Option.some.inj hb'
        exact ⟨.inl hW0, tail, hcell, hlen⟩
      · rw [Adr.grow_new] at hc
        cases hc
    · have g := h'.vec i blk v' n l hi' hv
      exact g.mono hle g.free (fun v' hv' => by rw [Adr.grow_old (fun e => hne e.1)]; exact g.last v' hv')
  · obtain ⟨blk, v', n, l, cap', g1, g2, g3⟩ := hv
    rcases vin g1 g2 g3 with ⟨rfl, rfl, _⟩ | ⟨hne, k1, k2⟩
    · refine ⟨fun blk2 hj e => apart (plain e) rfl, fun hv2 => ?_⟩
      obtain ⟨blk2, v2, n2, l2, cap2, f1, f2, f3⟩ := hv2
      rcases vin f1 f2 f3 with ⟨rfl, _, _⟩ | ⟨_, k3, k4⟩
      · rfl
      · exact (vapart ⟨blk2, v2, n2, l2, cap2, k3, f2, k4⟩ rfl).elim
    · have hv0 : vecIn β m i b' := ⟨blk, v', n, l, cap', k1, g2, k2⟩
      obtain ⟨s1, s2⟩ := h.sep i b' hv0 j
      refine ⟨fun blk2 hj e => ?_, fun hv2 => ?_⟩
      · rcases append_cases j blk2 hj with ⟨rfl, _⟩ | ⟨_, hj'⟩
        · have := plain e; rw [hn.1] at this; cases this
        · exact s1 blk2 hj' e
      · obtain ⟨blk2, v2, n2, l2, cap2, f1, f2, f3⟩ := hv2
        rcases vin f1 f2 f3 with ⟨_, e, _⟩ | ⟨_, k3, k4⟩
        · exact (vapart hv0 e).elim
        · exact s2 ⟨blk2, v2, n2, l2, cap2, k3, f2, k4⟩
/-- A new growing slice, which is nil, at some turn. -/
theorem MRel.nilAt {c : Cfg A} {X : Nat → Prop} {W0 W : World} {β : Adr} {m : Mem A} {ty : TypeId} {sz : Nat} (h : MRel c X W0 β m W) (ht : Top β m) (hs : sizeT c.P ty = some sz) (v0 : Nat) :
    MRel c X W0 (β.grow m.length v0 (none, 0) (fun _ _ => False)) (m ++ [some ⟨[.mk v0 0], ty, false⟩]) W := by
  have hn := ht m.length (Nat.le_refl _)
  have hle : Adr.le β (β.grow m.length v0 (none, 0) (fun _ _ => False)) := Adr.le_grow (hn.2 v0)
  have plain : ∀ {i b}, (β.grow m.length v0 (none, 0) (fun _ _ => False)) i = some b → β i = some b := fun h => h
  have vin : ∀ {i : Nat} {blk : Blk A} {v n l b cap}, nth (m ++ [some ⟨[.mk v0 0], ty, false⟩]) i = some (some blk) → blk.vec = some (v, n, l) → (β.grow m.length v0 (none, 0) (fun _ _ => False)).gs i v = some (some b, cap) →
      nth m i = some (some blk) ∧ β.gs i v = some (some b, cap) := by
    intro i blk v n l b cap h1 h2 h3
    rcases append_cases i blk h1 with ⟨rfl, e⟩ | ⟨hne, hi⟩
    · obtain ⟨rfl, rfl, rfl⟩ := vec_of e h2
      rw [Adr.grow_new] at h3
      cases h3
    · rw [Adr.grow_old (fun e => hne e.1)] at h3
      exact ⟨hi, h3⟩
  refine ⟨fun i blk hi hnv => ?_, fun i j bi bj b li lj hi hj => ?_, h.dom, h.ext, h.glob, h.old, h.nc, fun a u hk => ?_, fun i blk v n l hi hv => ?_, fun i b hv j => ?_⟩
  · rcases append_cases i blk hi with ⟨_, rfl⟩ | ⟨_, hi'⟩
    · cases hnv
    · obtain ⟨b, us, fz, h1, h2, h3, h4⟩ := h.mem i blk hi' hnv
      exact ⟨b, us, fz, h1, h2.mono hle, h3, h4⟩
  · rcases append_cases i bi li with ⟨rfl, _⟩ | ⟨_, li'⟩
    · have := plain hi; rw [hn.1] at this; cases this
    · rcases append_cases j bj lj with ⟨rfl, _⟩ | ⟨_, lj'⟩
      · have := plain hj; rw [hn.1] at this; cases this
      · exact h.inj i j bi bj b li' lj' hi hj
  · rcases hk with hk | hk
    · obtain ⟨k1, k2, k3⟩ := h.kn a u hk
      refine ⟨k1, k2, fun i hw => k3 i ?_⟩
      rcases hw with ⟨blk, w1, w2, w3, w4⟩ | ⟨blk, v, n, l, cap, w1, w2, w3, w4⟩
      · rcases append_cases i blk w1 with ⟨_, rfl⟩ | ⟨_, hi'⟩
        · cases w2
        · exact .inl ⟨blk, hi', w2, w3, w4⟩
      · obtain ⟨g1, g2⟩ := vin w1 w2 w3
        exact .inr ⟨blk, v, n, l, cap, g1, w2, g2, w4⟩
    · exact hk.elim
  · rcases append_cases i blk hi with ⟨rfl, e⟩ | ⟨hne, hi'⟩
    · obtain ⟨rfl, rfl, rfl⟩ := vec_of e hv
      subst e
      refine ⟨hn.1, fun v' hv' => ?_, ⟨none, 0, [], sz, Adr.grow_new .., hs, rfl, Nat.zero_le _, fun b hb => by cases hb⟩, fun cap hc => ?_⟩
      · rw [Adr.grow_old (by rintro ⟨_, rfl⟩; omega)]
        exact hn.2 v'
      · rw [Adr.grow_new] at hc
        simp only [Option.some.injEq, Prod.mk.injEq, true_and] at hc
        exact ⟨rfl, hc.symm⟩
    · have g := h.vec i blk v n l hi' hv
      exact g.mono hle g.free (fun v' hv' => by rw [Adr.grow_old (fun e => hne e.1)]; exact g.last v' hv')
  · obtain ⟨blk, v, n, l, cap, g1, g2, g3⟩ := hv
    obtain ⟨k1, k2⟩ := vin g1 g2 g3
    obtain ⟨s1, s2⟩ := h.sep i b ⟨blk, v, n, l, cap, k1, g2, k2⟩ j
    refine ⟨fun blk2 hj e => ?_, fun hv2 => ?_⟩
    · rcases append_cases j blk2 hj with ⟨rfl, _⟩ | ⟨_, hj'⟩
      · have := plain e; rw [hn.1] at this; cases this
      · exact s1 blk2 hj' e
    · obtain ⟨blk2, v2, n2, l2, cap2, f1, f2, f3⟩ := hv2
      obtain ⟨k3, k4⟩ := vin f1 f2 f3
      exact s2 ⟨blk2, v2, n2, l2, cap2, k3, f2, k4⟩

theorem Top.adopt {β : Adr} {m : Mem A} {v cap : Nat} {bo : Option Nat} {K : Addr → Value → Prop} {x : Option (Blk A)} (h : Top β m) : Top (β.grow m.length v (bo, cap) K) (m ++ [x]) := by
  intro i hi
  have hi' : m.length + 1 ≤ i := by simpa using hi
  refine ⟨(h i (by omega)).1, fun v' => ?_⟩
  rw [Adr.grow_old (by rintro ⟨rfl, _⟩; omega)]
  exact (h i (by omega)).2 v'
/-! ### Contracts of functions that leave a growing slice of elements -/
/-- What such a call leaves: nil, or a new block with these cells and room behind them. -/
def Grown (P : Program) (W W' : World) (ty : TypeId) (sz n : Nat) (vs : List Value) (v : Value) : Prop :=
  sizeT P ty = some sz ∧ vs.length = n * sz ∧ ((n = 0 ∧ v = .slice none 0 0) ∨ ∃ b cap tail, v = .slice (some ⟨b, 0, none⟩) n cap ∧ n ≤ cap ∧ W.heap.size ≤ b ∧ W'.heap[b]? = some (.cells (vs ++ tail).toArray ty (0, 0)) ∧ (vs ++ tail).length = cap * sz ∧ cap ≤ maxLen)
/-- Function g leaves a new slice that may grow, with n elements, whose cells are told. -/
def Grows (A : Type) [Atom A] {Γ : Type} [Args A Γ] (P : Program) (g : FuncId) (ty : TypeId) (sz : Nat) (n : Γ → Nat) (f : Γ → Nat → A) : Prop :=
  ∀ (gh : Args.G A Γ) (x : Γ) (W : World), Args.good W gh x → CallSem P g (Args.vals gh x) W (fun v W' => Keeps W W' ∧ ∃ vs, Grown P W W' ty sz (n x) vs v ∧ ∀ j u, vs[j]? = some u → Atom.cells (f x j) = [u])
def growRow (A : Type) [Atom A] {Γ : Type} [Args A Γ] (g : FuncId) (ty : TypeId) (sz : Nat) (n : Γ → Nat) (f : Γ → Nat → A) : Row A where
  g := g
  e := fun old args m =>
    match Args.parse old m args with
    | some (x, vc) => some (.val false [.gr (f x) m.length 1 (n x) sz], some (m ++ [some ⟨[.mk 1 (timesN (n x) sz)], ty, false⟩]), vc)
    | none => none
  adds := true
  adds_ok := by
    intro _ old args m res m' vc h b hb
    split at h
    · simp only [Option.some.injEq, Prod.mk.injEq] at h
      obtain ⟨_, rfl, _⟩ := h
      exact nth_append_lt hb
    · cases h
theorem Grows.row {P : Program} {Γ : Type} [Args A Γ] {g : FuncId} {ty : TypeId} {sz : Nat} {n : Γ → Nat} {f : Γ → Nat → A} (h : Grows A P g ty sz n f) : RowOK P (growRow A g ty sz n f) := by
  intro c args m res mm vc hP he hvc X W0 W β vs _ hm hvs
  simp only [growRow] at he
  split at he
  · rename_i x vc' hx
    simp only [Option.some.injEq, Prod.mk.injEq] at he
    obtain ⟨rfl, rfl, rfl⟩ := he
    intro htop
    obtain ⟨gh, hg, rfl⟩ := Args.ok hx hvc hm hvs
    refine (h gh x W hg).mono ?_
    rintro v W' ⟨hk, us, ⟨hs, hul, hcase⟩, hf⟩
    have hn := htop m.length (Nat.le_refl _)
    rw [timesN_eq]
    rcases hcase with ⟨h0, rfl⟩ | ⟨b, cap, tail, rfl, hnc, hb, hcell, hlen, hcap⟩
    · have hu0 : us = [] := List.length_eq_zero_iff.1 (by rw [hul, h0, Nat.zero_mul])
      subst hu0
      refine ⟨β.grow m.length 1 (none, 0) (fun _ _ => False), Adr.le_grow (hn.2 1), LIs.of_single ?_, ?_, htop.adopt, hk.nc⟩
      · show growsIs _ _ _ _ _ ((β.grow m.length 1 (none, 0) _).gs m.length 1)
        rw [Adr.grow_new]
        exact ⟨h0, rfl⟩
      · rw [h0, Nat.zero_mul]
        exact (hm.keeps hk).nilAt htop (by rw [hP]; exact hs) 1
    · refine ⟨β.grow m.length 1 (some b, cap) (fun a u => ∃ j, a = ⟨b, j, none⟩ ∧ us[j]? = some u), Adr.le_grow (hn.2 1), LIs.of_single ?_, ?_, htop.adopt, hk.nc⟩
      rotate_left
      · rw [← hul]
        exact hm.adopt hk htop (by rw [hP]; exact hs) hb hcell hlen hcap 1
      · show growsIs _ _ _ _ _ ((β.grow m.length 1 (some b, cap) _).gs m.length 1)
        rw [Adr.grow_new]
        refine ⟨rfl, hnc, fun j hj => ?_⟩
        rw [Nat.zero_add]
        have hj' : j < us.length := by rw [hul]; exact hj
        exact ⟨us[j], .inr ⟨j, by rw [add_none, Nat.zero_add], List.getElem?_eq_getElem hj'⟩, hf j _ (List.getElem?_eq_getElem hj')⟩
  · cases he
end
end Go.Sh
namespace Go.Sh
open Go.RowKit
section
variable {A : Type} [Atom A]
/-- The growing slice that a run leaves. -/
def growOf (ty : TypeId) (sz : Nat) (r : TV A × Mem A × List Prop) : Option ((Nat → A) × Nat) × List Prop :=
  match r with
  | (.val false [.gr f i v n sz'], m, vc) =>
    match nth m i with
    | some (some ⟨[.mk v' k], ty', false⟩) => if sz' = sz ∧ ty' = ty then (some (f, n), (v = v' ∧ k = timesN n sz) :: vc) else (none, vc)
    | _ => (none, vc)
  | (_, _, vc) => (none, vc)
theorem grows_of_runT {P : Program} {Γ : Type} [Args A Γ] {g : FuncId} {fn : Func} {ty : TypeId} {sz : Nat} {n : Γ → Nat} {f : Γ → Nat → A} (hf : P.funcs[g]? = some fn)
    (hn : (fn.name == "runtime.NumGoroutine") = false) (hb : fn.body.isNone = false) (hs : sizeT P ty = some sz) (fuel : Nat)
    (h : ∀ (gh : Args.G A Γ) (x : Γ) (W : World), Args.good W gh x → ∃ (tbl : List (Row A)) (its : List (IRow A)), TblOK P tbl ∧ ITblOK P its ∧ ∃ orc lp F N vc, (run (cfgW P tbl its orc W.cell? lp [] noYield) fuel fn (Args.tvs gh x) []).map (growOf ty sz) = some (some (F, N), vc) ∧ All vc ∧ N = n x ∧ (∀ j, j < N * sz → Atom.cells (F j) = Atom.cells (f x j)) ∧
      ∀ body, fn.body = some body → LoopsFor P W.cell? [] lp body) : Grows A P g ty sz n f := by
  intro gh x W hg
  obtain ⟨tbl, its, ht, hi, orc, lp, F, N, vc, h1, h2, h3, h4, h5⟩ := h gh x W hg
  refine .inr ⟨callFunc_enter hf hn hb _ W, ?_⟩
  cases hr : run (cfgW P tbl its orc W.cell? lp [] noYield) fuel fn (Args.tvs gh x) [] with
  | none => rw [hr] at h1; cases h1
  | some z =>
    obtain ⟨res, m', vc'⟩ := z
    rw [hr] at h1
    replace h1 := Option.some.inj h1
    unfold growOf at h1
    split at h1
    · rename_i f' i v n' sz' m vc0 heq
      simp only [Prod.mk.injEq] at heq
      obtain ⟨rfl, rfl, rfl⟩ := heq
      split at h1
      · rename_i v' k ty' hi2
        split at h1
        · rename_i hst
          obtain ⟨rfl, rfl⟩ := hst
          simp only [Prod.mk.injEq, Option.some.injEq] at h1
          obtain ⟨⟨rfl, rfl⟩, rfl⟩ := h1
          have h2' := h2.mem
          have hvk : v = v' ∧ k = timesN n' sz' := h2' _ (by simp)
          obtain ⟨rfl, rfl⟩ := hvk
          have := run_sound (cfgOK0 ht hi orc W.cell? lp) rfl (c := cfgW P tbl its orc W.cell? lp [] noYield) hf (fun body hbd => h5 body hbd _ rfl rfl rfl rfl rfl) hr (fun p hp => h2' p (List.mem_cons_of_mem _ hp)) (X := fun _ => False) (W0 := W) (W := W) (β := Adr.nil) (mrel_nil _ W rfl rfl) (fun i _ => ⟨rfl, fun _ => rfl⟩) (Args.is _ hg)
          refine this.mono ?_
          rintro e W' ⟨u, rfl, β', _, hv, hm', _⟩
          refine ⟨u, rfl, hm'.ext, ?_⟩
          have hva := hm'.vec i _ v (timesN n' sz') [] hi2 rfl
          obtain ⟨bo, cap, vs, sz2, q1, q2, q3, q4, q5⟩ := hva.lies
          have hv' : growsIs β' f' n' sz' [u] (β'.gs i v) := LIs.single hv
          rw [q1] at hv'
          rw [timesN_eq] at q3
          obtain rfl : sz' = sz2 := Option.some.inj (hs.symm.trans q2)
          cases bo with
          | none =>
            obtain ⟨rfl, hu⟩ := hv'
            simp at hu
            subst hu
            have hvs : vs = [] := List.length_eq_zero_iff.1 (by rw [q3, Nat.zero_mul])
            exact ⟨[], ⟨hs, by rw [← h3]; simp, .inl ⟨h3.symm, rfl⟩⟩, fun j u hj => by simp at hj⟩
          | some b =>
            obtain ⟨hu, hnc, hkn⟩ := hv'
            simp at hu
            subst hu
            obtain ⟨hown, tail, hcell, hlen⟩ := q5 b rfl
            refine ⟨vs, ⟨hs, by rw [← h3]; exact q3, .inr ⟨b, cap, tail, by rw [← h3], by rw [← h3]; exact hnc, hown.resolve_right id, hcell, hlen, q4⟩⟩, fun j u hj => ?_⟩
            have hjl := (List.getElem?_eq_some_iff.1 hj).1
            obtain ⟨w, k1, k2⟩ := hkn j (by rw [← q3]; exact hjl)
            have k3 := (hm'.kn _ _ k1).1
            have e1 : (⟨b, 0, none⟩ : Addr).add j = ⟨b, j, none⟩ := by rw [add_none, Nat.zero_add]
            rw [e1, cell_of_row W' b j _ _ _ hcell] at k3
            have e2 : (vs ++ tail).toArray[j]? = some u := by simp [List.getElem?_append_left hjl, hj]
            rw [e2] at k3
            obtain rfl := Option.some.inj k3
            rw [Nat.zero_add] at k2
            rw [← h4 j (by rw [← q3]; exact hjl)]
            exact k2
        · simp at h1
      · simp at h1
    · simp at h1
end
end Go.Sh
namespace Go.Sh
open Go.RowKit Go.Shelf
section
variable {A : Type} [Atom A]
/-- slices.Grow of nil: an empty slice with room. -/
def roomRow (A : Type) [Atom A] (P : Program) (g : FuncId) (ty : TypeId) : Row A where
  g := g
  e := fun old args m =>
    match args with
    | [.val false [.v (.slice none 0 0)], .val false [s]] =>
      match intOfSV s with
      | some (_, .i64, z) => some (.val false [.gr (fun _ => Atom.dummy) m.length 0 0 1], some (m ++ [some ⟨[.mk 0 0], ty, false⟩]), [0 < z ∧ z ≤ 4294967296])
      | _ => none
    | _ => none
  adds := true
  adds_ok := by
    intro _ old args m res m' vc h b hb
    split at h
    · split at h
      · simp only [Option.some.injEq, Prod.mk.injEq] at h
        obtain ⟨_, rfl, _⟩ := h
        exact nth_append_lt hb
      · cases h
    · cases h
theorem roomRow_ok {P : Program} {ρ : Ren} (L : Go.Proofs.Lays8.n4 P ρ) {g : FuncId} {ty : TypeId} {i0 : TypeInfo} {z0 : Value} {fn : Func} (hg : ρ.f 4 = g) (hty : ρ.t 25 = ty) (hi0 : P.info? ty = some i0) (hz0 : i0.zero = some z0) (hs0 : i0.size = 1) (hb0 : i0.bytes = 1) (hz1 : z0.cells.size = 1)
    (hf : P.funcs[g]? = some fn) (hn : (fn.name == "runtime.NumGoroutine") = false) (hb : fn.body.isNone = false) : RowOK (A := A) P (roomRow A P g ty) := by
  subst hg hty
  intro c args m res mm vc hP he hvc X W0 W β vs _ hm hvs
  simp only [roomRow] at he
  split at he
  · rename_i s
    split at he
    · rename_i lit z hz
      simp only [Option.some.injEq, Prod.mk.injEq] at he
      obtain ⟨rfl, rfl, rfl⟩ := he
      intro htop
      have hzz : 0 < z ∧ z ≤ 4294967296 := hvc _ (by simp)
      obtain ⟨v1, r1, h1, ⟨v2, r2, h2, h3, rfl⟩, rfl⟩ := hvs
      obtain rfl : r2 = [] := h3
      have e1 : v1 = .slice none 0 0 := by
        have := (LIs.single (h1 : LIs β _ [v1])).1
        simpa using this
      have e2 := intOfSV_is (LIs.single (h2 : LIs β _ [v2])) hz
      subst e1 e2
      obtain ⟨n, rfl⟩ := Int.eq_ofNat_of_zero_le (by omega : 0 ≤ z)
      have hn0 : 0 < n := by omega
      have hst : sizeT c.P (ρ.t 25) = some 1 := by rw [hP]; unfold sizeT; rw [hi0]; simp [hs0]
      refine .inr ⟨callFunc_enter hf hn hb _ W, ?_⟩
      have hG := Go.Proofs.Any8.slices_Grow_grow L i0 z0 hi0 hz0 (by omega) none 0 0 n [] W (Nat.le_refl _) (by omega) (by rw [hb0]; omega) (by omega) (by simp) (fun _ => rfl) (fun a ha => by cases ha)
      refine hG.mono ?_
      rintro e W' ⟨rfl, rfl⟩
      have hk : Keeps W (W.drew.alloc (.cells (#[] ++ Builtin.zeroCells z0.cells (0 + n - 0) ++ Builtin.zeroCells z0.cells (grownCap W (0 + n) 0 (ρ.t 25) - (0 + n))) (ρ.t 25))) := (Keeps.drew W).trans (Keeps.alloc _ _)
      have hGn : 0 + n ≤ grownCap W (0 + n) 0 (ρ.t 25) := grownCap_ge W _ _ _
      have hGm := grownCap_le_maxLen W (0 + n) 0 (ρ.t 25) (by unfold maxLen; omega)
      revert hGn hGm hk
      generalize grownCap W (0 + n) 0 (ρ.t 25) = G
      intro hk hGn hGm
      have hzl : ∀ k, (Builtin.zeroCells z0.cells k).toList.length = k := by
        intro k
        simp [Builtin.zeroCells, hz1]
      have hcells : (#[] ++ Builtin.zeroCells z0.cells (0 + n - 0) ++ Builtin.zeroCells z0.cells (G - (0 + n)) : Array Value) = ([] ++ ((Builtin.zeroCells z0.cells (0 + n - 0)).toList ++ (Builtin.zeroCells z0.cells (G - (0 + n))).toList)).toArray := by
        apply Array.toList_inj.1
        simp
      have hlen : (([] : List Value) ++ ((Builtin.zeroCells z0.cells (0 + n - 0)).toList ++ (Builtin.zeroCells z0.cells (G - (0 + n))).toList)).length = G * 1 := by
        rw [List.nil_append, List.length_append, hzl, hzl]
        omega
      rw [hcells] at hk
      rw [hcells]
      have hn1 := htop m.length (Nat.le_refl _)
      refine ⟨_, rfl, β.grow m.length 0 (some W.heap.size, G) (fun a u => ∃ j, a = ⟨W.heap.size, j, none⟩ ∧ ([] : List Value)[j]? = some u), Adr.le_grow (hn1.2 0), LIs.of_single ?_, ?_, htop.adopt, hk.nc⟩
      · show growsIs _ _ _ _ _ ((β.grow m.length 0 (some W.heap.size, G) _).gs m.length 0)
        rw [Adr.grow_new]
        exact ⟨rfl, Nat.zero_le _, fun j hj => by simp at hj⟩
      · exact hm.adopt (vs := []) hk htop hst (Nat.le_refl _) (by show (W.heap.push _)[W.heap.size]? = _; simp) hlen (by omega) 0
    · cases he
  · cases he
end
end Go.Sh
namespace Go.Proofs.YtaloefkkllebeaaDoor
open Go Go.Sh Go.Shelf
def renG : Ren := ⟨fun _ => 126, fun x => match x with | 25 => 5 | x => x, fun x => x⟩
theorem laysG : Lays8.n4 Tryd.prog renG where
  mixed := by kernel_rfl
  f4 := ⟨Tryd.f126.name, by kernel_rfl, by kernel_rfl⟩
  t0 := by kernel_rfl
  a0 := fun w => by kernel_rfl
  z0 := fun w => by kernel_rfl
  v0 := fun w => by kernel_rfl
  t3 := by kernel_rfl
  a3 := fun w => by kernel_rfl
  z3 := fun w => by kernel_rfl
  v3 := fun w => by kernel_rfl
  t4 := by kernel_rfl
  a4 := fun w => by kernel_rfl
  z4 := fun w => by kernel_rfl
  v4 := fun w => by kernel_rfl
  t9 := by kernel_rfl
  a9 := fun w => by kernel_rfl
  z9 := fun w => by kernel_rfl
  v9 := fun w => by kernel_rfl
  t20 := by kernel_rfl
  a20 := fun w => by kernel_rfl
  z20 := fun w => by kernel_rfl
  v20 := fun w => by kernel_rfl
  t22 := by kernel_rfl
  a22 := fun w => by kernel_rfl
  z22 := fun w => by kernel_rfl
  v22 := fun w => by kernel_rfl
noncomputable def roomG : Row A := roomRow A Tryd.prog 126 5
theorem roomG_ok : RowOK Tryd.prog roomG := roomRow_ok laysG rfl rfl (i0 := ((Tryd.prog.info? 5).getD default)) (z0 := .int .u8 0) (by kernel_rfl) (by kernel_rfl) (by kernel_rfl) (by kernel_rfl) (by kernel_rfl) Tryd.func126 (by kernel_rfl) (by kernel_rfl)
end Go.Proofs.YtaloefkkllebeaaDoor

/- Branches as growing slices. -/
namespace Go.Proofs.YtaloefkkllebeaaDoor
open Go Go.Sh
theorem branchG_of {Pr : R8 32 → R8 32 → R8 32} (ht : TblOK Tryd.prog (tblSp' Pr)) : Grows A Tryd.prog 56 25 32 (fun x : GA (Rt 32 × Dp 9 × UInt64 × Unit) => x.x.2.1.n) (fun x => branchF Pr x.x.1.l x.x.2.2.1 (mmI (x.x.2.1.n : Int)) x.x.2.1.n) := by
  refine grows_of_runT Tryd.func56 (by kernel_rfl) (by kernel_rfl) (by kernel_rfl) 6 ?_
  rintro ⟨g, _⟩ ⟨⟨⟨l⟩, ⟨d⟩, ix, ⟨⟩⟩⟩ W ⟨hr, ⟨hg, hn⟩, hd9, _⟩
  have hG : HasRows W l g := hg
  have hN : l.length < 1048576 := hn
  have hd : d ≤ 9 := hd9
  have hD : mmI (d : Int) = (d : Int) := by rw [mmI_eq]; omega
  have eU : ((cvU (d : Int)).toNat : Int).toNat = d := cvU_nat (by omega)
  have eP : pow2W (((cvU (mmI (d : Int))).toNat : Int).toNat : Int) = (2 : Int) ^ d := by rw [hD, eU, pow2W_eq (by omega)]
  have hp := two_pow_le (i := d) (by omega)
  have w1 : WrapI (mmI (d : Int) + 1) := by rw [hD]; exact wI (by omega) (by omega)
  have w2 : WrapI (pow2W (((cvU (mmI (d : Int))).toNat : Int).toNat : Int)) := by rw [eP]; exact wI (by omega) (by omega)
  have c0 : (0 : Int) ≤ ((cvU (mmI (d : Int))).toNat : Int) := by omega
  have d64 : decide (mmI (d : Int) < 64) = true := decide_eq_true (by omega)
  have d62 : decide (mmI (d : Int) < 62) = true := decide_eq_true (by omega)
  show ∃ tbl its, _ ∧ _ ∧ ∃ orc lp, ∃ (F : Nat → A) (N : Nat), ∃ vc, _ ∧ _ ∧ N = d ∧ (∀ j, j < N * 32 → Atom.cells (F j) = Atom.cells (bF Pr ⟨fun q => rsB l (0 + q), mB l (mmI (d : Int))⟩ ix (mmI (d : Int)) d j)) ∧ _
  have hv : d = d ∧ c32 d = timesN d 32 := ⟨rfl, by rw [c32_eq, timesN_eq]; omega⟩
  have hb1 : ∀ cut m cc, m < 1048576 → SoundFor Tryd.prog W.cell? [ysB g l ix d m cc (mmI (d : Int)) cut] (.loop (loopNo Tryd.f123 3)) (outB g l m cc (mmI (d : Int)) (ixB ix (mmI (d : Int)) 0) (fun _ => Atom.dummy) zR.f (fun q => rsB l (0 + q)) m 0) .ret
      (leftB g l m cc (mmI (d : Int)) (ixB ix (mmI (d : Int)) d) (bF Pr ⟨fun q => rsB l (0 + q), m⟩ ix (mmI (d : Int)) d) (zK Pr zR d).f (lvG Pr ⟨fun q => rsB l (0 + q), m⟩ d).B (lvG Pr ⟨fun q => rsB l (0 + q), m⟩ d).n d) := fun cut m cc hm c q1 q2 q3 q4 =>
    loopAt (c := c) (inv := fun k => outB g l m cc (mmI (d : Int)) (ixB ix (mmI (d : Int)) k) (bF Pr ⟨fun q => rsB l (0 + q), m⟩ ix (mmI (d : Int)) k) (zK Pr zR k).f (lvG Pr ⟨fun q => rsB l (0 + q), m⟩ k).B (lvG Pr ⟨fun q => rsB l (0 + q), m⟩ k).n k) (N := d) (by simp)
      (fun k hk => outB_one g l ix d m cc _ cut ht hr q1 q2 q3 q4 _ _ _ _ _ k (Nat.lt_of_le_of_lt (lvG_len Pr ⟨fun q => rsB l (0 + q), m⟩ k) hm) hD hk (by omega)) (outB_left g l ix d m cc _ cut ht hr q1 q2 q3 q4 _ _ _ _ _ hD)
  cases hl : decide ((l.length : Int) > pow2W (((cvU (mmI (d : Int))).toNat : Int).toNat : Int)) with
  | false =>
    have em : mB l (mmI (d : Int)) = l.length := by unfold mB; rw [hl]
    rw [em]
    have hs := hb1 false l.length g.c hN
    have hu := bF_u8 Pr ⟨fun q => rsB l (0 + q), l.length⟩ ix (mmI (d : Int)) d
    revert hs hu
    generalize bF Pr ⟨fun q => rsB l (0 + q), l.length⟩ ix (mmI (d : Int)) d = q
    generalize (zK Pr zR d).f = z
    generalize (lvG Pr ⟨fun q => rsB l (0 + q), l.length⟩ d).B = B
    generalize (lvG Pr ⟨fun q => rsB l (0 + q), l.length⟩ d).n = n
    generalize ixB ix (mmI (d : Int)) d = ix'
    intro hs hu
    have hi : ITblOK Tryd.prog (itB Pr g l l.length g.c (mmI (d : Int)) (ixB ix (mmI (d : Int)) 0) ix' q z B n d) := .cons (iterW_ok ht (ITblOK.nil _) _ _ 6 Tryd.func123 (by kernel_rfl) (by kernel_rfl)) (ITblOK.nil _)
    have hb : ∀ body, Tryd.f123.body = some body → LoopsFor Tryd.prog W.cell? [ysB g l ix d l.length g.c (mmI (d : Int)) false] (lps [(3, outB g l l.length g.c (mmI (d : Int)) (ixB ix (mmI (d : Int)) 0) (fun _ => Atom.dummy) zR.f (fun q => rsB l (0 + q)) l.length 0, .ret, leftB g l l.length g.c (mmI (d : Int)) ix' q z B n d)]) body := fun body hb => by
      obtain rfl := Option.some.inj hb
      exact LoopsFor.cons (by kernel_rfl) hs LoopsFor.nil
    have bb : Sh.Bears l.length 32 := by unfold Sh.Bears maxLen; omega
    have rd : Reads W.cell? g.a (rsAt (l := l)) 0 (l.length * 32) := reads_rows (n := 32) hG (by omega)
    exact ⟨_, _, .cons levelsRow_ok (.nil _), hi, orX [(24, false), (23, false)], noLoop, q, d, [d = d ∧ c32 d = timesN d 32, ∀ body, Tryd.f123.body = some body → LoopsFor Tryd.prog W.cell? [ysB g l ix d l.length g.c (mmI (d : Int)) false] (lps [(3, outB g l l.length g.c (mmI (d : Int)) (ixB ix (mmI (d : Int)) 0) (fun _ => Atom.dummy) zR.f (fun q => rsB l (0 + q)) l.length 0, .ret, leftB g l l.length g.c (mmI (d : Int)) ix' q z B n d)]) body,
      ToldIs (outB g l l.length g.c (mmI (d : Int)) (ixB ix (mmI (d : Int)) 0) (fun _ => Atom.dummy) zR.f (fun q => rsB l (0 + q)) l.length 0), WrapI (mmI (d : Int) + 1), Sh.Bears l.length 32, Reads W.cell? g.a (rsAt l) 0 (l.length * 32), (0 : Int) ≤ ((cvU (mmI (d : Int))).toNat : Int), decide (mmI (d : Int) < 64) = true, decide ((l.length : Int) > pow2W (((cvU (mmI (d : Int))).toNat : Int).toNat : Int)) = false,
      WrapI (pow2W (((cvU (mmI (d : Int))).toNat : Int).toNat : Int)), (0 : Int) ≤ ((cvU (mmI (d : Int))).toNat : Int), decide (mmI (d : Int) < 62) = true], by kernel_rfl,
      ⟨hv, hb, toldIs _, w1, bb, rd, c0, d64, hl, w2, c0, d62, trivial⟩, rfl, fun _ _ => rfl, fun body _ => loopsFor_none⟩
  | true =>
    have hgt := of_decide_eq_true hl
    have em : mB l (mmI (d : Int)) = (pow2W (((cvU (mmI (d : Int))).toNat : Int).toNat : Int)).toNat - 0 := by unfold mB; rw [hl]
    rw [em]
    have hm1 : (pow2W (((cvU (mmI (d : Int))).toNat : Int).toNat : Int)).toNat - 0 < 1048576 := by omega
    have hm2 : (pow2W (((cvU (mmI (d : Int))).toNat : Int).toNat : Int)).toNat - 0 ≤ l.length := by omega
    have hgc := hG.1
    have pc : 0 ≤ pow2W (((cvU (mmI (d : Int))).toNat : Int).toNat : Int) ∧ pow2W (((cvU (mmI (d : Int))).toNat : Int).toNat : Int) ≤ (g.c : Int) := by omega
    have hs := hb1 true ((pow2W (((cvU (mmI (d : Int))).toNat : Int).toNat : Int)).toNat - 0) (g.c - 0) hm1
    have hu := bF_u8 Pr ⟨fun q => rsB l (0 + q), (pow2W (((cvU (mmI (d : Int))).toNat : Int).toNat : Int)).toNat - 0⟩ ix (mmI (d : Int)) d
    have bb : Sh.Bears ((pow2W (((cvU (mmI (d : Int))).toNat : Int).toNat : Int)).toNat - 0) 32 := by unfold Sh.Bears maxLen; omega
    have rd : Reads W.cell? g.a (rsAt (l := l)) 0 (((pow2W (((cvU (mmI (d : Int))).toNat : Int).toNat : Int)).toNat - 0) * 32) := reads_rows (n := 32) hG (by omega)
    revert hs hu
    generalize bF Pr ⟨fun q => rsB l (0 + q), (pow2W (((cvU (mmI (d : Int))).toNat : Int).toNat : Int)).toNat - 0⟩ ix (mmI (d : Int)) d = q
    generalize (zK Pr zR d).f = z
    generalize (lvG Pr ⟨fun q => rsB l (0 + q), (pow2W (((cvU (mmI (d : Int))).toNat : Int).toNat : Int)).toNat - 0⟩ d).B = B
    generalize (lvG Pr ⟨fun q => rsB l (0 + q), (pow2W (((cvU (mmI (d : Int))).toNat : Int).toNat : Int)).toNat - 0⟩ d).n = n
    generalize ixB ix (mmI (d : Int)) d = ix'
    intro hs hu
    have hi : ITblOK Tryd.prog (itB Pr g l ((pow2W (((cvU (mmI (d : Int))).toNat : Int).toNat : Int)).toNat - 0) (g.c - 0) (mmI (d : Int)) (ixB ix (mmI (d : Int)) 0) ix' q z B n d) := .cons (iterW_ok ht (ITblOK.nil _) _ _ 6 Tryd.func123 (by kernel_rfl) (by kernel_rfl)) (ITblOK.nil _)
    have hb : ∀ body, Tryd.f123.body = some body → LoopsFor Tryd.prog W.cell? [ysB g l ix d ((pow2W (((cvU (mmI (d : Int))).toNat : Int).toNat : Int)).toNat - 0) (g.c - 0) (mmI (d : Int)) true] (lps [(3, outB g l ((pow2W (((cvU (mmI (d : Int))).toNat : Int).toNat : Int)).toNat - 0) (g.c - 0) (mmI (d : Int)) (ixB ix (mmI (d : Int)) 0) (fun _ => Atom.dummy) zR.f (fun q => rsB l (0 + q)) ((pow2W (((cvU (mmI (d : Int))).toNat : Int).toNat : Int)).toNat - 0) 0, .ret, leftB g l ((pow2W (((cvU (mmI (d : Int))).toNat : Int).toNat : Int)).toNat - 0) (g.c - 0) (mmI (d : Int)) ix' q z B n d)]) body := fun body hb => by
      obtain rfl := Option.some.inj hb
      exact LoopsFor.cons (by kernel_rfl) hs LoopsFor.nil
    exact ⟨_, _, .cons levelsRow_ok (.nil _), hi, orX [], noLoop, q, d, [d = d ∧ c32 d = timesN d 32, ∀ body, Tryd.f123.body = some body → LoopsFor Tryd.prog W.cell? [ysB g l ix d ((pow2W (((cvU (mmI (d : Int))).toNat : Int).toNat : Int)).toNat - 0) (g.c - 0) (mmI (d : Int)) true] (lps [(3, outB g l ((pow2W (((cvU (mmI (d : Int))).toNat : Int).toNat : Int)).toNat - 0) (g.c - 0) (mmI (d : Int)) (ixB ix (mmI (d : Int)) 0) (fun _ => Atom.dummy) zR.f (fun q => rsB l (0 + q)) ((pow2W (((cvU (mmI (d : Int))).toNat : Int).toNat : Int)).toNat - 0) 0, .ret, leftB g l ((pow2W (((cvU (mmI (d : Int))).toNat : Int).toNat : Int)).toNat - 0) (g.c - 0) (mmI (d : Int)) ix' q z B n d)]) body,
      ToldIs (outB g l ((pow2W (((cvU (mmI (d : Int))).toNat : Int).toNat : Int)).toNat - 0) (g.c - 0) (mmI (d : Int)) (ixB ix (mmI (d : Int)) 0) (fun _ => Atom.dummy) zR.f (fun q => rsB l (0 + q)) ((pow2W (((cvU (mmI (d : Int))).toNat : Int).toNat : Int)).toNat - 0) 0), WrapI (mmI (d : Int) + 1), Sh.Bears ((pow2W (((cvU (mmI (d : Int))).toNat : Int).toNat : Int)).toNat - 0) 32, Reads W.cell? g.a (rsAt l) 0 (((pow2W (((cvU (mmI (d : Int))).toNat : Int).toNat : Int)).toNat - 0) * 32), (0 : Int) ≤ ((cvU (mmI (d : Int))).toNat : Int), decide (mmI (d : Int) < 64) = true,
      0 ≤ pow2W (((cvU (mmI (d : Int))).toNat : Int).toNat : Int) ∧ pow2W (((cvU (mmI (d : Int))).toNat : Int).toNat : Int) ≤ (g.c : Int), WrapI (pow2W (((cvU (mmI (d : Int))).toNat : Int).toNat : Int)), (0 : Int) ≤ ((cvU (mmI (d : Int))).toNat : Int), decide ((l.length : Int) > pow2W (((cvU (mmI (d : Int))).toNat : Int).toNat : Int)) = true,
      WrapI (pow2W (((cvU (mmI (d : Int))).toNat : Int).toNat : Int)), (0 : Int) ≤ ((cvU (mmI (d : Int))).toNat : Int), decide (mmI (d : Int) < 62) = true], by kernel_rfl,
      ⟨hv, hb, toldIs _, w1, bb, rd, c0, d64, pc, w2, c0, hl, w2, c0, d62, trivial⟩, rfl, fun _ _ => rfl, fun body _ => loopsFor_none⟩

theorem branchG_ok : Grows A Tryd.prog 56 25 32 (fun x : GA (Rt 32 × Dp 9 × UInt64 × Unit) => x.x.2.1.n) (fun x => branchF pairR8 x.x.1.l x.x.2.2.1 (mmI (x.x.2.1.n : Int)) x.x.2.1.n) := branchG_of (.cons pair_ok.row (.nil _))
end Go.Proofs.YtaloefkkllebeaaDoor

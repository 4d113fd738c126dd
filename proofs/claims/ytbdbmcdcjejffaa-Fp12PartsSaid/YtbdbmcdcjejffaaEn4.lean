/- An operation of whatever kind, and a row of operations one behind the other, on shadows and on values. -/
import Derived.Test.YtbdbmcdcjejffaaEn1
set_option linter.unusedVariables false
set_option linter.unusedSimpArgs false
set_option linter.unusedSectionVars false
namespace Go.Sh
open Go.RowKit

section
variable {A : Type} [Atom A]

theorem nth_append_lt {α : Type} : ∀ {l r : List α} {i : Nat}, i < l.length → nth (l ++ r) i = nth l i := by
  intro l r i h
  rw [nth_eq, nth_eq, List.getElem?_append_left h]

theorem nth_lt {α : Type} {l : List α} {i : Nat} {x : α} (h : nth l i = some x) : i < l.length := by
  rw [nth_eq] at h
  exact (List.getElem?_eq_some_iff.1 h).1

theorem nth_snoc {α : Type} (l : List α) (x : α) : nth (l ++ [x]) l.length = some x := by
  rw [nth_eq]; simp

theorem nth_setN {α : Type} (l : List α) (i j : Nat) (y : α) : nth (setN l i y) j = if i = j then (if i < l.length then some y else none) else nth l j := by
  rw [nth_eq, setN_eq, nth_eq, List.getElem?_set]

/-- β with one more block. -/
def Adr.put (β : Adr) (k b : Nat) : Adr := ⟨fun i => if i = k then some b else β i, β.kp, β.kn, β.gs⟩

theorem Adr.put_at (β : Adr) (k b i : Nat) : (β.put k b) i = if i = k then some b else β i := rfl

theorem Adr.le_put {β : Adr} {k b : Nat} (h : β k = none) : Adr.le β (β.put k b) := by
  refine ⟨fun i b' e => ?_, fun _ h => h, fun _ _ h => h, fun _ _ _ h => h⟩
  rw [Adr.put_at]
  split
  · rename_i h'; subst h'; rw [h] at e; cases e
  · exact e

theorem setRow_at (w : World) (b k : Nat) (cs old : Array Value) (t : TypeId) (fz : Nat × Nat) (h : w.heap[b]? = some (.cells old t fz)) :
    (w.setRow b cs).heap[k]? = if k = b then some (.cells cs t fz) else w.heap[k]? := by
  unfold World.setRow
  simp only [Array.getElem?_modify]
  by_cases e : b = k
  · subst e; simp [h]
  · have e' : ¬ k = b := fun x => e x.symm
    simp [e, e']

theorem NC.setRow {w : World} {b : Nat} {old : Array Value} {t : TypeId} {fz : Nat × Nat} (h : w.heap[b]? = some (.cells old t fz)) (cs : Array Value) : NC w (w.setRow b cs) := fun k o hk ho => by
  rw [setRow_at w b k _ _ _ _ h, if_neg]
  · exact hk
  · rintro rfl
    rw [h] at hk
    cases hk
    cases ho

/-- A new block. -/
theorem MRel.alloc {c : Cfg A} {X : Nat → Prop} {W0 W : World} {β : Adr} {m m' : Mem A} {k : Nat} {cells : List (SV A)} {vs : List Value} {t : TypeId} (h : MRel c X W0 β m W) (hk : β k = none) (hv : LIs β cells vs)
    (hm : ∀ i blk, nth m' i = some (some blk) → (i = k ∧ blk = ⟨cells, t, false⟩) ∨ (i ≠ k ∧ nth m i = some (some blk))) :
    MRel c X W0 (β.put k W.heap.size) m' (W.alloc (.cells vs.toArray t)) := by
  have hle : Adr.le β (β.put k W.heap.size) := Adr.le_put hk
  have hal : ∀ i, i < W.heap.size → (W.alloc (.cells vs.toArray t)).heap[i]? = W.heap[i]? := fun i hi => (Keeps.alloc W _).block i hi id
  have hplain : ∀ (blk : Blk A) v n l, blk = ⟨cells, t, false⟩ → blk.vec ≠ some (v, n, l) := by
    rintro blk v n l rfl e
    unfold Blk.vec at e
    split at e
    · rename_i heq
      change cells = _ at heq
      rw [heq] at hv
      obtain ⟨_, _, h1, _⟩ := hv
      exact h1
    · cases e
  have hk' := h.keeps (Keeps.alloc W (.cells vs.toArray t))
  have vin : ∀ {i b}, vecIn (β.put k W.heap.size) m' i b → vecIn β m i b ∧ i ≠ k := by
    rintro i b ⟨blk, v, n, l, cap, g1, g2, g3⟩
    rcases hm i blk g1 with ⟨rfl, e⟩ | ⟨hne, hi'⟩
    · exact absurd g2 (hplain blk v n l e)
    · exact ⟨⟨blk, v, n, l, cap, hi', g2, g3⟩, hne⟩
  refine ⟨?_, ?_, ?_, h.ext.trans (Keeps.alloc W _).ext, fun g i e => hle.pl _ _ (h.glob g i e), h.old, hk'.nc, fun a v hkn => ?_, fun i blk v n l hi hvec => ?_, fun i b hvi j => ?_⟩
  rotate_left 3
  · obtain ⟨g1, g2, g3⟩ := hk'.kn a v hkn
    refine ⟨g1, g2, fun i hw => ?_⟩
    have hlt := cell?_lt (h.kn a v hkn).1
    rcases hw with ⟨blk, w1, w2, w3, w4⟩ | ⟨blk, v1, n1, l1, cap1, w1, w2, w3, w4⟩
    · rcases hm i blk w1 with ⟨rfl, e⟩ | ⟨hne, hi'⟩
      · rw [Adr.put_at, if_pos rfl] at w4
        have := Option.some.inj w4
        omega
      · rw [Adr.put_at, if_neg hne] at w4
        exact g3 i (.inl ⟨blk, hi', w2, w3, w4⟩)
    · rcases hm i blk w1 with ⟨rfl, e⟩ | ⟨hne, hi'⟩
      · exact absurd w2 (hplain blk v1 n1 l1 e)
      · exact g3 i (.inr ⟨blk, v1, n1, l1, cap1, hi', w2, w3, w4⟩)
  · rcases hm i blk hi with ⟨rfl, e⟩ | ⟨hne, hi'⟩
    · exact absurd hvec (hplain blk v n l e)
    · have g := hk'.vec i blk v n l hi' hvec
      exact g.mono hle (by rw [Adr.put_at, if_neg hne]; exact g.free) g.last
  · obtain ⟨hvi', hne⟩ := vin hvi
    obtain ⟨s1, s2⟩ := h.sep i b hvi' j
    refine ⟨fun blk hj e => ?_, fun hvj => s2 (vin hvj).1⟩
    rcases hm j blk hj with ⟨rfl, _⟩ | ⟨hnj, hj'⟩
    · rw [Adr.put_at, if_pos rfl] at e
      have := wrt.lt h (.inr hvi')
      have := Option.some.inj e
      omega
    · rw [Adr.put_at, if_neg hnj] at e
      exact s1 blk hj' e
  · intro i blk hi hnv
    rcases hm i blk hi with ⟨rfl, rfl⟩ | ⟨hne, hi'⟩
    · refine ⟨W.heap.size, vs, (0, 0), by simp [Adr.put_at], hv.mono hle, ?_, fun _ => ⟨rfl, .inl h.ext.size⟩⟩
      show (W.heap.push _)[W.heap.size]? = _
      simp
    · obtain ⟨b, us, fz, h1, h2, h3, h4⟩ := h.mem i blk hi' hnv
      exact ⟨b, us, fz, hle.pl _ _ h1, h2.mono hle, by rw [hal b (h.dom i b h1)]; exact h3, h4⟩
  · intro i j bi bj b li lj hi hj
    rw [Adr.put_at] at hi hj
    rcases hm i bi li with ⟨e1, _⟩ | ⟨e1, li⟩ <;> rcases hm j bj lj with ⟨e2, _⟩ | ⟨e2, lj⟩
    · omega
    · rw [if_pos e1] at hi; rw [if_neg e2] at hj; have := h.dom j b hj; simp at hi; omega
    · rw [if_neg e1] at hi; rw [if_pos e2] at hj; have := h.dom i b hi; simp at hj; omega
    · rw [if_neg e1] at hi; rw [if_neg e2] at hj; exact h.inj i j bi bj b li lj hi hj
  · intro i b hi
    show b < (W.heap.push _).size
    rw [Adr.put_at] at hi
    split at hi
    · simp at hi ⊢; omega
    · have := h.dom i b hi; simp; omega

/-- A block is written. -/
theorem MRel.setRow {c : Cfg A} {X : Nat → Prop} {W0 W : World} {β : Adr} {m : Mem A} {i b : Nat} {blk : Blk A} {cells : List (SV A)} {vs us : List Value} (h : MRel c X W0 β m W)
    (hb : β i = some b) (hi : nth m i = some (some blk)) (hro : blk.ro = false) (hold : W.heap[b]? = some (.cells us.toArray blk.ty (0, 0))) (hv : LIs β cells vs) :
    MRel c X W0 β (setN m i (some ⟨cells, blk.ty, false⟩)) (W.setRow b vs.toArray) := by
  obtain ⟨b', us', fz, g1, g2, g3, g4⟩ := h.mem' hi hb
  have : b' = b := by rw [hb] at g1; exact (Option.some.inj g1).symm
  subst this
  have hpl := h.plain hi hb
  obtain ⟨_, gx⟩ := g4 hro
  have hsz : (W.setRow b' vs.toArray).heap.size = W.heap.size := size_setRow _ _ _
  have lives : ∀ j blk', nth (setN m i (some ⟨cells, blk.ty, false⟩)) j = some (some blk') → ∃ bj, nth m j = some (some bj) := by
    intro j blk' hj
    rw [nth_setN] at hj
    split at hj
    · rename_i e; subst e; exact ⟨blk, hi⟩
    · exact ⟨blk', hj⟩
  have hnew : (⟨cells, blk.ty, false⟩ : Blk A).vec = none := by
    unfold Blk.vec
    split
    · rename_i heq
      change cells = _ at heq
      rw [heq] at hv
      obtain ⟨_, _, h1, _⟩ := hv
      exact h1.elim
    · rfl
  have hb0 : ∀ a : Addr, a.block = b' → wra β m i a := fun a e => .inl ⟨blk, hi, hpl, hro, by rw [e]; exact hb⟩
  have entry : ∀ {j blk'}, nth (setN m i (some ⟨cells, blk.ty, false⟩)) j = some (some blk') → (j = i ∧ blk' = ⟨cells, blk.ty, false⟩) ∨ (i ≠ j ∧ nth m j = some (some blk')) := by
    intro j blk' hj
    rw [nth_setN] at hj
    split at hj
    · rename_i e
      split at hj
      · simp at hj; exact .inl ⟨e.symm, hj.symm⟩
      · cases hj
    · rename_i e; exact .inr ⟨e, hj⟩
  have vin : ∀ {j b}, vecIn β (setN m i (some ⟨cells, blk.ty, false⟩)) j b → vecIn β m j b := by
    rintro j b ⟨blk', v, n, l, cap, g1, g2, g3⟩
    rcases entry g1 with ⟨_, rfl⟩ | ⟨_, hj'⟩
    · rw [hnew] at g2; cases g2
    · exact ⟨blk', v, n, l, cap, hj', g2, g3⟩
  have win : ∀ {j} {a : Addr}, wra β (setN m i (some ⟨cells, blk.ty, false⟩)) j a → wra β m j a := by
    rintro j a (⟨blk', w1, w2, w3, w4⟩ | ⟨blk', v1, n1, l1, cap1, w1, w2, w3⟩)
    · rcases entry w1 with ⟨rfl, rfl⟩ | ⟨_, hj'⟩
      · exact hb0 a (Option.some.inj (w4.symm.trans hb))
      · exact .inl ⟨blk', hj', w2, w3, w4⟩
    · rcases entry w1 with ⟨_, rfl⟩ | ⟨_, hj'⟩
      · rw [hnew] at w2; cases w2
      · exact .inr ⟨blk', v1, n1, l1, cap1, hj', w2, w3⟩
  have other : ∀ {b}, b ≠ b' → (W.setRow b' vs.toArray).heap[b]? = W.heap[b]? := fun {b} hne => by rw [setRow_at W b' b _ _ _ _ hold, if_neg hne]
  refine ⟨?_, fun j j' bj bj' b l1 l2 => ?_, fun j b hj => by rw [hsz]; exact h.dom j b hj, ?_, h.glob, h.old, fun k hk => ?_, fun a v hkn => ?_, fun j blk' v n l hj hvec => ?_, fun j b hvj j2 => ?_⟩
  rotate_left 4
  · obtain ⟨k1, k2, k3⟩ := h.kn a v hkn
    exact ⟨cell?_same k1 (other (fun e => k3 i (hb0 a e))), k2, fun j hw => k3 j (win hw)⟩
  · rcases entry hj with ⟨_, rfl⟩ | ⟨_, hj'⟩
    · rw [hnew] at hvec; cases hvec
    · refine (h.vec j blk' v n l hj' hvec).kept (fun _ _ _ h => h) (fun b cap hb2 => other (fun e => ?_))
      subst e
      exact (h.sep j b ⟨blk', v, n, l, cap, hj', hvec, hb2⟩ i).1 blk hi hb
  · obtain ⟨s1, s2⟩ := h.sep j b (vin hvj) j2
    refine ⟨fun blk2 h2 e => ?_, fun hv2 => s2 (vin hv2)⟩
    obtain ⟨x, hx⟩ := lives j2 blk2 h2
    exact s1 x hx e
  · intro j blk' hj hnv
    rw [nth_setN] at hj
    split at hj
    · rename_i e
      subst e
      split at hj
      · simp at hj
        subst hj
        exact ⟨b', vs, (0, 0), hb, hv, by rw [setRow_at W b' b' _ _ _ _ hold]; simp, fun _ => ⟨rfl, gx⟩⟩
      · cases hj
    · rename_i hne
      obtain ⟨b2, us2, fz2, k1, k2, k3, k4⟩ := h.mem j blk' hj hnv
      have hb2 : ¬ b2 = b' := fun e => hne (h.inj i j blk blk' b' hi hj hb (e ▸ k1))
      exact ⟨b2, us2, fz2, k1, k2, by rw [setRow_at W b' b2 _ _ _ _ hold, if_neg hb2]; exact k3, k4⟩
  · obtain ⟨x, hx⟩ := lives j bj l1
    obtain ⟨y, hy⟩ := lives j' bj' l2
    exact h.inj j j' x y b hx hy
  · refine ⟨h.ext.os, h.ext.tape, h.ext.output, by rw [hsz]; exact h.ext.size, fun k hk hx => ?_⟩
    rw [setRow_at W b' k _ _ _ _ hold, if_neg ?_]
    · exact h.ext.block k hk hx
    · intro e
      subst e
      rcases gx with gx | gx
      · omega
      · exact hx gx
  · have := h.nc k hk
    rw [setRow_at W b' k _ _ _ _ hold, if_neg]
    · exact this
    · intro e
      subst e
      rw [hold] at this
      cases this.1

omit [Atom A] in
theorem Top.append {β : Adr} {m : Mem A} {x : Option (Blk A)} {b : Nat} (h : Top β m) : Top (β.put m.length b) (m ++ [x]) := by
  intro i hi
  simp at hi
  refine ⟨?_, (h i (by omega)).2⟩
  rw [Adr.put_at, if_neg (by omega)]
  exact (h i (by omega)).1

theorem setN_length {α : Type} (l : List α) (i : Nat) (y : α) : (setN l i y).length = l.length := by rw [setN_eq]; simp

omit [Atom A] in
theorem Top.setN {β : Adr} {m : Mem A} {x : Option (Blk A)} {i : Nat} (h : Top β m) : Top β (Sh.setN m i x) := by
  intro j hj
  rw [setN_length] at hj
  exact h j hj

omit [Atom A] in
theorem append_cases {m : Mem A} {b : Blk A} (i : Nat) (blk : Blk A) (h : nth (m ++ [some b]) i = some (some blk)) : (i = m.length ∧ blk = b) ∨ (i ≠ m.length ∧ nth m i = some (some blk)) := by
  have hl := nth_lt h
  simp at hl
  by_cases e : i = m.length
  · subst e
    rw [nth_snoc] at h
    simp at h
    exact .inl ⟨rfl, h.symm⟩
  · rw [nth_append_lt (by omega)] at h
    exact .inr ⟨e, h⟩

/-- One turn more of a growing slice; more cells hold for good. -/
def Adr.grow (β : Adr) (i v : Nat) (x : Option Nat × Nat) (K : Addr → Value → Prop) : Adr := ⟨β.pl, β.kp, fun a u => β.kn a u ∨ K a u, fun j w => if j = i ∧ w = v then some x else β.gs j w⟩
theorem Adr.le_grow {β : Adr} {i v : Nat} {x : Option Nat × Nat} {K : Addr → Value → Prop} (h : β.gs i v = none) : Adr.le β (β.grow i v x K) := by
  refine ⟨fun _ _ h => h, fun _ h => h, fun _ _ h => .inl h, fun j w y e => ?_⟩
  show (if j = i ∧ w = v then some x else β.gs j w) = some y
  rw [if_neg]
  · exact e
  · rintro ⟨rfl, rfl⟩
    rw [h] at e
    cases e
theorem Adr.grow_new (β : Adr) (i v : Nat) (x : Option Nat × Nat) (K : Addr → Value → Prop) : (β.grow i v x K).gs i v = some x := by
  show (if i = i ∧ v = v then some x else β.gs i v) = some x
  simp
theorem Adr.grow_old {β : Adr} {i v : Nat} {x : Option Nat × Nat} {K : Addr → Value → Prop} {j w : Nat} (h : ¬ (j = i ∧ w = v)) : (β.grow i v x K).gs j w = β.gs j w := by
  show (if j = i ∧ w = v then some x else β.gs j w) = _
  rw [if_neg h]

/-- Growing slices' own words. -/
theorem vec_mk {v n : Nat} {ty : TypeId} {ro : Bool} : (⟨[.mk v n], ty, ro⟩ : Blk A).vec = some (v, n, []) := rfl
theorem vec_of {blk : Blk A} {v n : Nat} {l : List (SV A)} {ty : TypeId} {v' n' : Nat} {ro : Bool} (h : blk = ⟨[.mk v' n'], ty, ro⟩) (e : blk.vec = some (v, n, l)) : v = v' ∧ n = n' ∧ l = [] := by
  subst h
  have := Option.some.inj e
  simp only [Prod.mk.injEq] at this
  exact ⟨this.1.symm, this.2.1.symm, this.2.2.symm⟩

/-- A new growing slice, which is nil. -/
theorem MRel.token {c : Cfg A} {X : Nat → Prop} {W0 W : World} {β : Adr} {m : Mem A} {ty : TypeId} {sz : Nat} (h : MRel c X W0 β m W) (ht : Top β m) (hs : sizeT c.P ty = some sz) :
    MRel c X W0 (β.grow m.length 0 (none, 0) (fun _ _ => False)) (m ++ [some ⟨[.mk 0 0], ty, false⟩]) W := by
  have hn := ht m.length (Nat.le_refl _)
  have hle : Adr.le β (β.grow m.length 0 (none, 0) (fun _ _ => False)) := Adr.le_grow (hn.2 0)
  have plain : ∀ {i b}, (β.grow m.length 0 (none, 0) (fun _ _ => False)) i = some b → β i = some b := fun h => h
  have vin : ∀ {i : Nat} {blk : Blk A} {v n l b cap}, nth (m ++ [some ⟨[.mk 0 0], ty, false⟩]) i = some (some blk) → blk.vec = some (v, n, l) → (β.grow m.length 0 (none, 0) (fun _ _ => False)).gs i v = some (some b, cap) →
      nth m i = some (some blk) ∧ β.gs i v = some (some b, cap) := by
    intro i blk v n l b cap h1 h2 h3
    rcases append_cases i blk h1 with ⟨rfl, e⟩ | ⟨hne, hi⟩
    · obtain ⟨rfl, rfl, rfl⟩ := vec_of e h2
      rw [Adr.grow_new] at h3
      cases h3
    · rw [Adr.grow_old (fun e => hne e.1)] at h3
      exact ⟨hi, h3⟩
  refine ⟨fun i blk hi hnv => ?_, fun i j bi bj b li lj hi hj => ?_, h.dom, h.ext, h.glob, h.old, h.nc, fun a u hk => ?_, fun i blk v n l hi hv => ?_, fun i b hv j => ?_⟩
  · rcases append_cases i blk hi with ⟨_, rfl⟩ | ⟨_, hi'⟩
    · cases hnv
    · obtain ⟨b, us, fz, h1, h2, h3, h4⟩ := h.mem i blk hi' hnv
      exact ⟨b, us, fz, h1, h2.mono hle, h3, h4⟩
  · rcases append_cases i bi li with ⟨rfl, _⟩ | ⟨_, li'⟩
    · have := plain hi; rw [hn.1] at this; cases this
    · rcases append_cases j bj lj with ⟨rfl, _⟩ | ⟨_, lj'⟩
      · have := plain hj; rw [hn.1] at this; cases this
      · exact h.inj i j bi bj b li' lj' hi hj
  · rcases hk with hk | hk
    · obtain ⟨k1, k2, k3⟩ := h.kn a u hk
      refine ⟨k1, k2, fun i hw => k3 i ?_⟩
      rcases hw with ⟨blk, w1, w2, w3, w4⟩ | ⟨blk, v, n, l, cap, w1, w2, w3, w4⟩
      · rcases append_cases i blk w1 with ⟨_, rfl⟩ | ⟨_, hi'⟩
        · cases w2
        · exact .inl ⟨blk, hi', w2, w3, w4⟩
      · obtain ⟨g1, g2⟩ := vin w1 w2 w3
        exact .inr ⟨blk, v, n, l, cap, g1, w2, g2, w4⟩
    · exact hk.elim
  · rcases append_cases i blk hi with ⟨rfl, e⟩ | ⟨hne, hi'⟩
    · obtain ⟨rfl, rfl, rfl⟩ := vec_of e hv
      subst e
      refine ⟨hn.1, fun v' hv' => ?_, ⟨none, 0, [], sz, Adr.grow_new .., hs, rfl, Nat.zero_le _, fun b hb => by cases hb⟩, fun cap hc => ?_⟩
      · rw [Adr.grow_old (by rintro ⟨_, rfl⟩; omega)]
        exact hn.2 v'
      · rw [Adr.grow_new] at hc
        simp only [Option.some.injEq, Prod.mk.injEq, true_and] at hc
        exact ⟨rfl, hc.symm⟩
    · have g := h.vec i blk v n l hi' hv
      exact g.mono hle g.free (fun v' hv' => by rw [Adr.grow_old (fun e => hne e.1)]; exact g.last v' hv')
  · obtain ⟨blk, v, n, l, cap, g1, g2, g3⟩ := hv
    obtain ⟨k1, k2⟩ := vin g1 g2 g3
    obtain ⟨s1, s2⟩ := h.sep i b ⟨blk, v, n, l, cap, k1, g2, k2⟩ j
    refine ⟨fun blk2 hj e => ?_, fun hv2 => ?_⟩
    · rcases append_cases j blk2 hj with ⟨rfl, _⟩ | ⟨_, hj'⟩
      · have := plain e; rw [hn.1] at this; cases this
      · exact s1 blk2 hj' e
    · obtain ⟨blk2, v2, n2, l2, cap2, f1, f2, f3⟩ := hv2
      obtain ⟨k3, k4⟩ := vin f1 f2 f3
      exact s2 ⟨blk2, v2, n2, l2, cap2, k3, f2, k4⟩

/-- A growing slice's turn. -/
theorem MRel.grow {c : Cfg A} {X : Nat → Prop} {W0 W W' : World} {β : Adr} {m : Mem A} {ty : TypeId} {sz i v k b' cap' : Nat} {bo : Option Nat} {cap : Nat} {vs tail : List Value} {row : Option Nat} (h : MRel c X W0 β m W) (hi : nth m i = some (some ⟨[.mk v k], ty, false⟩)) (hs : sizeT c.P ty = some sz)
    (hgs : β.gs i v = some (bo, cap)) (hrow : row = none ∨ row = bo) (hg : W.grownBy W' row) (hb : W'.heap[b']? = some (.cells (vs ++ tail).toArray ty (0, 0))) (htot : (vs ++ tail).length = cap' * sz) (hcap : cap' ≤ maxLen)
    (hnew : row = some b' ∨ (row = none ∧ W.heap.size ≤ b')) (hsame : row = some b' → k ≤ vs.length ∧ ∀ j u, j < k → W.cell? ⟨b', j, none⟩ = some u → vs[j]? = some u) :
    let β' := β.grow i (v + 1) (some b', cap') (fun a u => ∃ j, a = ⟨b', j, none⟩ ∧ vs[j]? = some u)
    MRel c X W0 β' (setN m i (some ⟨[.mk (v + 1) vs.length], ty, false⟩)) W' ∧ Adr.le β β' ∧ NC W W' ∧ (Top β m → Top β' (setN m i (some ⟨[.mk (v + 1) vs.length], ty, false⟩))) := by
  have hv := h.vec i _ v k [] hi rfl
  intro β'
  have hle : Adr.le β β' := Adr.le_grow (hv.last (v + 1) (by omega))
  have hil := nth_lt hi
  have entry : ∀ {j : Nat} {blk : Blk A}, nth (setN m i (some ⟨[.mk (v + 1) vs.length], ty, false⟩)) j = some (some blk) → (j = i ∧ blk = ⟨[.mk (v + 1) vs.length], ty, false⟩) ∨ (j ≠ i ∧ nth m j = some (some blk)) := by
    intro j blk hj
    rw [nth_setN] at hj
    split at hj
    · rename_i e
      simp at hj; exact .inl ⟨e.symm, hj.symm⟩
    · rename_i e; exact .inr ⟨fun x => e x.symm, hj⟩
  have hrb : ∀ b, row = some b → b = b' := fun b e => by
    rcases hnew with h1 | ⟨h1, _⟩
    · rw [h1] at e; exact (Option.some.inj e).symm
    · rw [h1] at e; cases e
  -- the row that is written is the slice's own
  have rowIn : ∀ b, row = some b → vecIn β m i b := fun b e => by
    rcases hrow with h1 | h1
    · rw [h1] at e; cases e
    · rw [h1] at e; subst e; exact ⟨_, v, k, [], cap, hi, rfl, hgs⟩
  have rowOwn : ∀ b, row = some b → W0.heap.size ≤ b ∨ X b := fun b e => by
    obtain ⟨_, _, _, g⟩ := (rowIn b e).block h
    exact g
  have bOwn : W0.heap.size ≤ b' ∨ X b' := by
    rcases hnew with h1 | ⟨_, h1⟩
    · exact rowOwn b' h1
    · exact .inl (Nat.le_trans h.ext.size h1)
  have kept : ∀ {b : Nat}, b < W.heap.size → some b ≠ row → W'.heap[b]? = W.heap[b]? := fun {b} h1 h2 => hg.block b h1 h2
  -- b' is no plain block's, and no other growing slice's
  have noPlain : ∀ {j : Nat} {blk : Blk A}, nth m j = some (some blk) → β j ≠ some b' := by
    intro j blk hj e
    rcases hnew with h1 | ⟨_, h1⟩
    · exact (h.sep i b' (rowIn b' h1) j).1 blk hj e
    · have := h.dom j b' e; omega
  have noVec : ∀ {j : Nat}, j ≠ i → ¬ vecIn β m j b' := by
    intro j hj e
    rcases hnew with h1 | ⟨_, h1⟩
    · exact hj ((h.sep i b' (rowIn b' h1) j).2 e).symm
    · have := wrt.lt h (.inr e); omega
  have old : ∀ {j w}, j ≠ i → β'.gs j w = β.gs j w := fun hj => Adr.grow_old (fun e => hj e.1)
  have vin : ∀ {j b}, vecIn β' (setN m i (some ⟨[.mk (v + 1) vs.length], ty, false⟩)) j b → (j = i ∧ b = b') ∨ (j ≠ i ∧ vecIn β m j b) := by
    rintro j b ⟨blk, v1, n1, l1, cap1, g1, g2, g3⟩
    rcases entry g1 with ⟨rfl, e⟩ | ⟨hj, g1'⟩
    · obtain ⟨rfl, rfl, rfl⟩ := vec_of e g2
      rw [show β'.gs j (v + 1) = some (some b', cap') from Adr.grow_new ..] at g3
      simp only [Option.some.injEq, Prod.mk.injEq] at g3
      exact .inl ⟨rfl, g3.1.symm⟩
    · rw [old hj] at g3
      exact .inr ⟨hj, blk, v1, n1, l1, cap1, g1', g2, g3⟩
  refine ⟨⟨fun j blk hj hnv => ?_, fun j j2 bj bj2 b l1 l2 e1 e2 => ?_, fun j b hj => Nat.lt_of_lt_of_le (h.dom j b hj) hg.size, ?_, h.glob, h.old, fun d hd => ?_, fun a u hk => ?_, fun j blk v1 n1 l1 hj hv1 => ?_, fun j b hvj j2 => ?_⟩, hle, fun d o hd hc => ?_, fun ht j hj => ?_⟩
  · rcases entry hj with ⟨_, rfl⟩ | ⟨_, hj'⟩
    · cases hnv
    · obtain ⟨b, us, fz, h1, h2, h3, h4⟩ := h.mem j blk hj' hnv
      refine ⟨b, us, fz, h1, h2.mono hle, ?_, h4⟩
      rw [kept (h.dom j b h1) (fun e => by
        have := hrb b e.symm
        subst this
        exact noPlain hj' h1)]
      exact h3
  · have e1 : β j = some b := e1
    have e2 : β j2 = some b := e2
    rcases entry l1 with ⟨rfl, _⟩ | ⟨_, l1'⟩
    · exact absurd (hv.free.symm.trans e1) (by simp)
    · rcases entry l2 with ⟨rfl, _⟩ | ⟨_, l2'⟩
      · exact absurd (hv.free.symm.trans e2) (by simp)
      · exact h.inj j j2 bj bj2 b l1' l2' e1 e2
  · refine ⟨hg.os.trans h.ext.os, hg.tape.trans h.ext.tape, hg.output.trans h.ext.output, Nat.le_trans h.ext.size hg.size, fun d hd hx => ?_⟩
    rw [hg.block d (Nat.lt_of_lt_of_le hd h.ext.size) (fun e => by
      rcases rowOwn d e.symm with g | g
      · omega
      · exact hx g)]
    exact h.ext.block d hd hx
  · obtain ⟨h1, h2⟩ := h.nc d hd
    refine ⟨?_, h2⟩
    rw [kept (Array.getElem?_eq_some_iff.1 h1).1 (fun e => by
      obtain ⟨cs, t, g, _⟩ := (rowIn d e.symm).block h
      rw [g] at h1
      cases h1)]
    exact h1
  · rcases hk with hk | ⟨j, rfl, hj⟩
    · obtain ⟨k1, k2, k3⟩ := h.kn a u hk
      refine ⟨?_, k2, fun j hw => ?_⟩
      · by_cases e : some a.block = row
        · have eb := hrb a.block e.symm
          obtain ⟨q1, q2⟩ := hsame (by rw [← e, eb])
          have hoff : a.off < k := by
            refine Nat.lt_of_not_le (fun hko => k3 i (.inr ⟨_, v, k, [], cap, hi, rfl, ?_, hko⟩))
            rw [hgs]
            rcases hrow with h1 | h1
            · rw [h1] at e; cases e
            · rw [← h1, ← e]
          have hspot : a = ⟨b', a.off, none⟩ := by
            obtain ⟨ab, ao, asp⟩ := a
            simp only at eb
            subst eb
            congr 1
            unfold World.cell? at k1
            split at k1
            · split at k1
              · cases k1
              · rename_i hns
                simpa using hns
            · cases k1
          rw [hspot] at k1 ⊢
          have q3 := q2 a.off u hoff k1
          rw [cell_of_row W' b' a.off _ _ _ hb]
          have hlt := (List.getElem?_eq_some_iff.1 q3).1
          simp only [List.getElem?_toArray]
          rw [List.getElem?_append_left hlt]
          exact q3
        · exact cell?_same k1 (kept (cell?_lt k1) e)
      · rcases hw with ⟨blk, w1, w2, w3, w4⟩ | ⟨blk, v1, n1, l1, cap1, w1, w2, w3, w4⟩
        · rcases entry w1 with ⟨_, rfl⟩ | ⟨_, w1'⟩
          · cases w2
          · exact k3 j (.inl ⟨blk, w1', w2, w3, w4⟩)
        · rcases entry w1 with ⟨rfl, e⟩ | ⟨hji, w1'⟩
          · obtain ⟨rfl, rfl, rfl⟩ := vec_of e w2
            rw [show β'.gs j (v + 1) = some (some b', cap') from Adr.grow_new ..] at w3
            simp only [Option.some.injEq, Prod.mk.injEq] at w3
            rcases hnew with h1 | ⟨_, h1⟩
            · obtain ⟨q1, _⟩ := hsame h1
              refine k3 j (.inr ⟨_, v, k, [], cap, hi, rfl, ?_, by omega⟩)
              rw [hgs]
              rcases hrow with h2 | h2
              · rw [h2] at h1; cases h1
              · rw [← h2, h1, w3.1]
            · have := cell?_lt k1
              have := w3.1
              omega
          · rw [old hji] at w3
            exact k3 j (.inr ⟨blk, v1, n1, l1, cap1, w1', w2, w3, w4⟩)
    · refine ⟨?_, bOwn, fun j2 hw => ?_⟩
      · rw [cell_of_row W' b' j _ _ _ hb]
        have hlt := (List.getElem?_eq_some_iff.1 hj).1
        simp only [List.getElem?_toArray]
        rw [List.getElem?_append_left hlt]
        exact hj
      · rcases hw with ⟨blk, w1, w2, w3, w4⟩ | ⟨blk, v1, n1, l1, cap1, w1, w2, w3, w4⟩
        · rcases entry w1 with ⟨_, rfl⟩ | ⟨_, w1'⟩
          · cases w2
          · exact noPlain w1' w4
        · rcases entry w1 with ⟨rfl, e⟩ | ⟨hji, w1'⟩
          · obtain ⟨rfl, rfl, rfl⟩ := vec_of e w2
            have hlt := (List.getElem?_eq_some_iff.1 hj).1
            simp only at w4
            omega
          · rw [old hji] at w3
            exact noVec hji ⟨blk, v1, n1, l1, cap1, w1', w2, w3⟩
  · rcases entry hj with ⟨rfl, e⟩ | ⟨hji, hj'⟩
    · obtain ⟨rfl, rfl, rfl⟩ := vec_of e hv1
      subst e
      refine ⟨hv.free, fun w hw => ?_, ⟨some b', cap', vs, sz, Adr.grow_new .., hs, rfl, hcap, fun b hb2 => ?_⟩, fun cap1 hc => ?_⟩
      · show β'.gs j w = none
        rw [show β'.gs j w = β.gs j w from Adr.grow_old (by rintro ⟨_, rfl⟩; omega)]
        exact hv.last w (by omega)
      · obtain rfl := Option.some.inj hb2
        exact ⟨bOwn, tail, hb, htot⟩
      · rw [show β'.gs j (v + 1) = some (some b', cap') from Adr.grow_new ..] at hc
        cases hc
    · have g := h.vec j blk v1 n1 l1 hj' hv1
      have g2 := g.kept (own' := fun b => W0.heap.size ≤ b ∨ X b) (W' := W') (fun _ _ _ h => h) (fun b cap1 hb1 => kept (wrt.lt h (.inr ⟨blk, v1, n1, l1, cap1, hj', hv1, hb1⟩)) (fun e => by
        have := hrb b e.symm
        subst this
        exact noVec hji ⟨blk, v1, n1, l1, cap1, hj', hv1, hb1⟩))
      exact g2.mono hle g.free (fun w hw => by rw [old hji]; exact g.last w hw)
  · rcases vin hvj with ⟨rfl, rfl⟩ | ⟨hji, hvj'⟩
    · refine ⟨fun blk2 hj2 e => ?_, fun hv2 => ?_⟩
      · rcases entry hj2 with ⟨rfl, _⟩ | ⟨_, hj2'⟩
        · have : β j2 = some b := e
          rw [hv.free] at this; cases this
        · exact noPlain hj2' e
      · rcases vin hv2 with ⟨rfl, _⟩ | ⟨hj2, hv2'⟩
        · rfl
        · exact absurd hv2' (noVec hj2)
    · obtain ⟨s1, s2⟩ := h.sep j b hvj' j2
      refine ⟨fun blk2 hj2 e => ?_, fun hv2 => ?_⟩
      · rcases entry hj2 with ⟨rfl, _⟩ | ⟨_, hj2'⟩
        · have : β j2 = some b := e
          rw [hv.free] at this; cases this
        · exact s1 blk2 hj2' e
      · rcases vin hv2 with ⟨rfl, rfl⟩ | ⟨_, hv2'⟩
        · exact absurd hvj' (noVec hji)
        · exact s2 hv2'
  · rw [kept (Array.getElem?_eq_some_iff.1 hd).1 (fun e => by
      obtain ⟨cs, t, g, _⟩ := (rowIn d e.symm).block h
      rw [g] at hd
      cases hd
      cases hc)]
    exact hd
  · rw [setN_length] at hj
    have g := ht j hj
    refine ⟨g.1, fun w => ?_⟩
    show β'.gs j w = none
    rw [old (by omega)]
    exact g.2 w

/-- A growing slice that stays nil. -/
theorem MRel.turnNil {c : Cfg A} {X : Nat → Prop} {W0 W : World} {β : Adr} {m : Mem A} {ty : TypeId} {i v k cap : Nat} (h : MRel c X W0 β m W) (hi : nth m i = some (some ⟨[.mk v k], ty, false⟩)) (hgs : β.gs i v = some (none, cap)) :
    MRel c X W0 (β.grow i (v + 1) (none, 0) (fun _ _ => False)) (setN m i (some ⟨[.mk (v + 1) 0], ty, false⟩)) W ∧ Adr.le β (β.grow i (v + 1) (none, 0) (fun _ _ => False)) ∧
      (Top β m → Top (β.grow i (v + 1) (none, 0) (fun _ _ => False)) (setN m i (some ⟨[.mk (v + 1) 0], ty, false⟩))) := by
  have hv := h.vec i _ v k [] hi rfl
  have hle : Adr.le β (β.grow i (v + 1) (none, 0) (fun _ _ => False)) := Adr.le_grow (hv.last (v + 1) (by omega))
  have hil := nth_lt hi
  have entry : ∀ {j : Nat} {blk : Blk A}, nth (setN m i (some ⟨[.mk (v + 1) 0], ty, false⟩)) j = some (some blk) → (j = i ∧ blk = ⟨[.mk (v + 1) 0], ty, false⟩) ∨ (j ≠ i ∧ nth m j = some (some blk)) := by
    intro j blk hj
    rw [nth_setN] at hj
    split at hj
    · rename_i e
      simp at hj; exact .inl ⟨e.symm, hj.symm⟩
    · rename_i e; exact .inr ⟨fun x => e x.symm, hj⟩
  have old : ∀ {j w}, j ≠ i → (β.grow i (v + 1) (none, 0) (fun _ _ => False)).gs j w = β.gs j w := fun hj => Adr.grow_old (fun e => hj e.1)
  have vin : ∀ {j : Nat} {blk : Blk A} {v1 n1 l1 b cap1}, nth (setN m i (some ⟨[.mk (v + 1) 0], ty, false⟩)) j = some (some blk) → blk.vec = some (v1, n1, l1) → (β.grow i (v + 1) (none, 0) (fun _ _ => False)).gs j v1 = some (some b, cap1) →
      nth m j = some (some blk) ∧ β.gs j v1 = some (some b, cap1) := by
    intro j blk v1 n1 l1 b cap1 g1 g2 g3
    rcases entry g1 with ⟨rfl, e⟩ | ⟨hj, g1'⟩
    · obtain ⟨rfl, rfl, rfl⟩ := vec_of e g2
      rw [Adr.grow_new] at g3
      cases g3
    · rw [old hj] at g3
      exact ⟨g1', g3⟩
  refine ⟨⟨fun j blk hj hnv => ?_, fun j j2 bj bj2 b l1 l2 e1 e2 => ?_, h.dom, h.ext, h.glob, h.old, h.nc, fun a u hk => ?_, fun j blk v1 n1 l1 hj hv1 => ?_, fun j b hvj j2 => ?_⟩, hle, fun ht j hj => ?_⟩
  · rcases entry hj with ⟨_, rfl⟩ | ⟨_, hj'⟩
    · cases hnv
    · obtain ⟨b, us, fz, h1, h2, h3, h4⟩ := h.mem j blk hj' hnv
      exact ⟨b, us, fz, h1, h2.mono hle, h3, h4⟩
  · have e1 : β j = some b := e1
    have e2 : β j2 = some b := e2
    rcases entry l1 with ⟨rfl, _⟩ | ⟨_, l1'⟩
    · exact absurd (hv.free.symm.trans e1) (by simp)
    · rcases entry l2 with ⟨rfl, _⟩ | ⟨_, l2'⟩
      · exact absurd (hv.free.symm.trans e2) (by simp)
      · exact h.inj j j2 bj bj2 b l1' l2' e1 e2
  · rcases hk with hk | hk
    · obtain ⟨k1, k2, k3⟩ := h.kn a u hk
      refine ⟨k1, k2, fun j hw => k3 j ?_⟩
      rcases hw with ⟨blk, w1, w2, w3, w4⟩ | ⟨blk, v1, n1, l1, cap1, w1, w2, w3, w4⟩
      · rcases entry w1 with ⟨_, rfl⟩ | ⟨_, w1'⟩
        · cases w2
        · exact .inl ⟨blk, w1', w2, w3, w4⟩
      · obtain ⟨g1, g2⟩ := vin w1 w2 w3
        exact .inr ⟨blk, v1, n1, l1, cap1, g1, w2, g2, w4⟩
    · exact hk.elim
  · rcases entry hj with ⟨rfl, e⟩ | ⟨hji, hj'⟩
    · obtain ⟨rfl, rfl, rfl⟩ := vec_of e hv1
      subst e
      obtain ⟨bo, cap', vs, sz, g1, g2, g3, g4, g5⟩ := hv.lies
      refine ⟨hv.free, fun w hw => ?_, ⟨none, 0, [], sz, Adr.grow_new .., g2, rfl, Nat.zero_le _, fun b hb => by cases hb⟩, fun cap1 hc => ?_⟩
      · rw [Adr.grow_old (by rintro ⟨_, rfl⟩; omega)]
        exact hv.last w (by omega)
      · rw [Adr.grow_new] at hc
        simp only [Option.some.injEq, Prod.mk.injEq, true_and] at hc
        exact ⟨rfl, hc.symm⟩
    · have g := h.vec j blk v1 n1 l1 hj' hv1
      exact g.mono hle g.free (fun w hw => by rw [old hji]; exact g.last w hw)
  · obtain ⟨blk, v1, n1, l1, cap1, g1, g2, g3⟩ := hvj
    obtain ⟨k1, k2⟩ := vin g1 g2 g3
    obtain ⟨s1, s2⟩ := h.sep j b ⟨blk, v1, n1, l1, cap1, k1, g2, k2⟩ j2
    refine ⟨fun blk2 hj2 e => ?_, fun hv2 => ?_⟩
    · rcases entry hj2 with ⟨rfl, _⟩ | ⟨_, hj2'⟩
      · have : β j2 = some b := e
        rw [hv.free] at this; cases this
      · exact s1 blk2 hj2' e
    · obtain ⟨blk2, v2, n2, l2, cap2, f1, f2, f3⟩ := hv2
      obtain ⟨k3, k4⟩ := vin f1 f2 f3
      exact s2 ⟨blk2, v2, n2, l2, cap2, k3, f2, k4⟩
  · rw [setN_length] at hj
    have g := ht j hj
    refine ⟨g.1, fun w => ?_⟩
    rw [old (by omega)]
    exact g.2 w

theorem wrap64 {n : Nat} (h : n ≤ 9223372036854775807) : IntKind.i64.wrap (n : Int) = n := by
  simp only [IntKind.wrap, IntKind.bits, IntKind.signed]
  have e : (2 : Int) ^ 64 = 18446744073709551616 := by decide
  have e' : (2 : Int) ^ (64 - 1) = 9223372036854775808 := by decide
  simp only [e, e', Bool.true_and, decide_eq_true_eq]
  split <;> omega
section
variable {P : Program} {W : World} (t ti ty e : TypeId) (inf : TypeInfo) (z : Value) (ki k : IntKind) (hu : P.underlying t = some (.slice e)) (hti : P.underlying ti = some (.int ki)) (hi : P.info? e = some inf) (hz : inf.zero = some z)
include hu hti hi
theorem run_appendN_zero (bo : Option Addr) (n cap : Nat) (hn : n ≤ cap) : (Builtin.append_ #[t, ti] ty #[.slice bo n cap, .int k ((0 : Nat) : Int)]).run P W = .ok (.slice bo n cap) W := by
  have hw : IntKind.i64.wrap 0 = 0 := by decide
  cases bo with
  | none => simp [Builtin.append_, run_underlying hu, run_underlying hti, sizeOf, typeInfo, hi, hn, asInt, asIntOf, hw]
  | some b => simp [Builtin.append_, run_underlying hu, run_underlying hti, sizeOf, typeInfo, hi, hn, asInt, asIntOf, hw, storeCells]
include hz
theorem run_appendN_nil (n : Nat) (h0 : 0 < n) (hs0 : 0 < inf.size) (h63 : (n : Int) ≤ 9223372036854775807) (h48 : n * inf.bytes ≤ 281474976710656) :
    (Builtin.append_ #[t, ti] ty #[.slice none 0 0, .int k (n : Int)]).run P W =
      .ok (.slice (some ⟨W.heap.size, 0, none⟩) n (grownCap W n 0 e)) (W.drew.alloc (.cells (Builtin.zeroCells z.cells n ++ Builtin.zeroCells z.cells (grownCap W n 0 e - n)) e)) := by
  have hw : IntKind.i64.wrap (n : Int) = n := wrap64 (by omega)
  have hn : n ≠ 0 := by omega
  have hs : ¬ (n * inf.size = 0) := by intro h; rcases Nat.mul_eq_zero.1 h with h | h <;> omega
  have h63' : ¬ (9223372036854775807 < (n : Int)) := by omega
  have h48' : ¬ (281474976710656 < Builtin.nextslicecap n 0 * inf.bytes) := by rw [nextslicecap_zero h0]; omega
  have h48'' : ¬ ((281474976710656 : Int) < (n : Int) * (inf.bytes : Int)) := by
    have : ((n * inf.bytes : Nat) : Int) ≤ 281474976710656 := Int.ofNat_le.2 h48
    rw [Int.natCast_mul] at this
    omega
  have hneg : ¬ ((n : Int) < 0) := by omega
  simp [Builtin.append_, run_underlying hu, run_underlying hti, sizeOf, typeInfo, zeroValue, hi, hz, asInt, asIntOf, hw, hn, hs, h63', h48', h48'', hneg, Question.forced, run_firstCells_none, newRow, grownCap]
theorem run_appendN_grow (b : Addr) (sLen sCap : Nat) (olds : List Value) (hlo : olds.length = sLen * inf.size) (holds : ∀ j v, olds[j]? = some v → W.cell? (b.add j) = some v) (n : Nat) (h0 : 0 < n) (hs0 : 0 < inf.size)
    (hg : sCap < sLen + n) (h63 : ((sLen + n : Nat) : Int) ≤ 9223372036854775807) (h48 : n * inf.bytes ≤ 281474976710656) (hfit : Builtin.nextslicecap (sLen + n) sCap * inf.bytes ≤ 281474976710656) :
    (Builtin.append_ #[t, ti] ty #[.slice (some b) sLen sCap, .int k (n : Int)]).run P W =
      .ok (.slice (some ⟨W.heap.size, 0, none⟩) (sLen + n) (grownCap W (sLen + n) sCap e))
        (W.drew.alloc (.cells (olds.toArray ++ Builtin.zeroCells z.cells n ++ Builtin.zeroCells z.cells (grownCap W (sLen + n) sCap e - (sLen + n))) e)) := by
  have hw : IntKind.i64.wrap (n : Int) = n := wrap64 (by omega)
  have hn0 : n ≠ 0 := by omega
  have hs : ¬ (n * inf.size = 0) := by intro h; rcases Nat.mul_eq_zero.1 h with h | h <;> omega
  have hn : ¬ (sLen + n ≤ sCap) := by omega
  have h63' : ¬ (9223372036854775807 < ((sLen : Int) + (n : Int))) := by omega
  have h48' : ¬ (281474976710656 < Builtin.nextslicecap (sLen + n) sCap * inf.bytes) := by omega
  have h48'' : ¬ ((281474976710656 : Int) < (n : Int) * (inf.bytes : Int)) := by
    have : ((n * inf.bytes : Nat) : Int) ≤ 281474976710656 := Int.ofNat_le.2 h48
    rw [Int.natCast_mul] at this
    omega
  have hneg : ¬ ((n : Int) < 0) := by omega
  have hfo := run_firstCells_some (P := P) W.drew inf.size sLen b sLen sCap olds hlo (by simpa using holds)
  simp [Builtin.append_, run_underlying hu, run_underlying hti, sizeOf, typeInfo, zeroValue, hi, hz, asInt, asIntOf, hw, hn0, hs, hn, h63', h48', h48'', hneg, Question.forced, hfo, newRow, grownCap]
theorem run_appendN_room (g sLen sCap : Nat) (cur : Array Value) (hg : W.heap[g]? = some (.cells cur e (0, 0))) (n : Nat) (h0 : 0 < n) (hs0 : 0 < inf.size) (h63 : (n : Int) ≤ 9223372036854775807) (h48 : n * inf.bytes ≤ 281474976710656)
    (h1 : ∀ u ∈ (Builtin.zeroCells z.cells n).toList, u.oneCell' = true) (hroom : sLen + n ≤ sCap) (hfit : sLen * inf.size + (Builtin.zeroCells z.cells n).toList.length ≤ cur.size) :
    (Builtin.append_ #[t, ti] ty #[.slice (some ⟨g, 0, none⟩) sLen sCap, .int k (n : Int)]).run P W =
      .ok (.slice (some ⟨g, 0, none⟩) (sLen + n) sCap) (W.setRow g (cur.toList.take (sLen * inf.size) ++ (Builtin.zeroCells z.cells n).toList ++ cur.toList.drop (sLen * inf.size + (Builtin.zeroCells z.cells n).toList.length)).toArray) := by
  have hw : IntKind.i64.wrap (n : Int) = n := wrap64 (by omega)
  have hn0 : n ≠ 0 := by omega
  have hs : ¬ (n * inf.size = 0) := by intro h; rcases Nat.mul_eq_zero.1 h with h | h <;> omega
  have h48'' : ¬ ((281474976710656 : Int) < (n : Int) * (inf.bytes : Int)) := by
    have : ((n * inf.bytes : Nat) : Int) ≤ 281474976710656 := Int.ofNat_le.2 h48
    rw [Int.natCast_mul] at this
    omega
  have hneg : ¬ ((n : Int) < 0) := by omega
  have hst := run_storeCells_at P g (sLen * inf.size) e (Builtin.zeroCells z.cells n).toList 0 cur W hg (by simpa using hfit) h1
  simp only [Nat.add_zero] at hst
  simp only [Builtin.append_]
  simp [run_underlying hu, run_underlying hti, sizeOf, typeInfo, zeroValue, hi, hz, asInt, asIntOf, hw, hn0, hs, h48'', hneg, hroom, Addr.add_lit, hst]
end

/-- What the second argument of an append yields: news, n elements; in the world W. -/
structure AppSrc (P : Program) (t ty e : TypeId) (inf : TypeInfo) (z : Value) (ats : Array TypeId) (y : Value) (n : Nat) (news : List Value) (W : World) : Prop where
  zero : n = 0 → ∀ (bo : Option Addr) (nn cap : Nat), nn ≤ cap → (Builtin.append_ ats ty #[.slice bo nn cap, y]).run P W = .ok (.slice bo nn cap) W
  nil : 0 < n → (n : Int) ≤ 9223372036854775807 → n * inf.bytes ≤ 281474976710656 → (Builtin.append_ ats ty #[.slice none 0 0, y]).run P W =
    .ok (.slice (some ⟨W.heap.size, 0, none⟩) n (grownCap W n 0 e)) (W.drew.alloc (.cells (news.toArray ++ Builtin.zeroCells z.cells (grownCap W n 0 e - n)) e))
  grow : 0 < n → ∀ (b : Addr) (sLen sCap : Nat) (olds : List Value), olds.length = sLen * inf.size → (∀ (j : Nat) v, olds[j]? = some v → W.cell? (b.add j) = some v) → sCap < sLen + n → ((sLen + n : Nat) : Int) ≤ 9223372036854775807 → n * inf.bytes ≤ 281474976710656 →
    Builtin.nextslicecap (sLen + n) sCap * inf.bytes ≤ 281474976710656 → (Builtin.append_ ats ty #[.slice (some b) sLen sCap, y]).run P W =
    .ok (.slice (some ⟨W.heap.size, 0, none⟩) (sLen + n) (grownCap W (sLen + n) sCap e)) (W.drew.alloc (.cells (olds.toArray ++ news.toArray ++ Builtin.zeroCells z.cells (grownCap W (sLen + n) sCap e - (sLen + n))) e))
  room : 0 < n → ∀ (g sLen sCap : Nat) (cur : Array Value), W.heap[g]? = some (.cells cur e (0, 0)) → (n : Int) ≤ 9223372036854775807 → n * inf.bytes ≤ 281474976710656 → (∀ u ∈ news, u.oneCell' = true) → sLen + n ≤ sCap → sLen * inf.size + news.length ≤ cur.size →
    (Builtin.append_ ats ty #[.slice (some ⟨g, 0, none⟩) sLen sCap, y]).run P W =
    .ok (.slice (some ⟨g, 0, none⟩) (sLen + n) sCap) (W.setRow g (cur.toList.take (sLen * inf.size) ++ news ++ cur.toList.drop (sLen * inf.size + news.length)).toArray)

theorem AppSrc.ofSlice {P : Program} {W : World} {t ty e : TypeId} {inf : TypeInfo} {z : Value} (hu : P.underlying t = some (.slice e)) (hi : P.info? e = some inf) (hz : inf.zero = some z) {p : Option Addr} {n cp : Nat} {news : List Value} (hpn : p = none → n = 0)
    (hnl : news.length = n * inf.size) (hnc : ∀ a, p = some a → ∀ (q : Nat) x, news[q]? = some x → W.cell? (a.add q) = some x) : AppSrc P t ty e inf z #[t, t] (.slice p n cp) n news W where
  zero h0 bo nn cap hn := by subst h0; exact run_append_zero t ty e inf hu hi bo p nn cap cp hn
  nil h0 h63 h48 := by
    cases p with
    | none => have := hpn rfl; omega
    | some a => exact run_append_nil (P := P) W t ty e inf z hu hi hz a n cp news hnl (hnc a rfl) h0 h63 h48
  grow h0 b sLen sCap olds hlo holds hg h63 _ hfit := by
    cases p with
    | none => have := hpn rfl; omega
    | some a => exact run_append_grow (P := P) W t ty e inf z hu hi hz b sLen sCap olds hlo holds a n cp news hnl (hnc a rfl) hg h63 hfit
  room h0 g sLen sCap cur hg _ _ h1 hroom hfit := by
    cases p with
    | none => have := hpn rfl; omega
    | some a => exact run_append_room (P := P) W t ty e inf hu hi g sLen sCap cur hg a n cp news hnl (hnc a rfl) h1 hroom hfit

theorem AppSrc.ofInt {P : Program} {W : World} {t ti ty e : TypeId} {inf : TypeInfo} {z : Value} {ki k : IntKind} (hu : P.underlying t = some (.slice e)) (hti : P.underlying ti = some (.int ki)) (hi : P.info? e = some inf) (hz : inf.zero = some z) (hs0 : 0 < inf.size) (n : Nat) :
    AppSrc P t ty e inf z #[t, ti] (.int k (n : Int)) n (Builtin.zeroCells z.cells n).toList W where
  zero h0 bo nn cap hn := by subst h0; exact run_appendN_zero t ti ty e inf ki k hu hti hi bo nn cap hn
  nil h0 h63 h48 := run_appendN_nil t ti ty e inf z ki k hu hti hi hz n h0 hs0 h63 h48
  grow h0 b sLen sCap olds hlo holds hg h63 h48 hfit := run_appendN_grow t ti ty e inf z ki k hu hti hi hz b sLen sCap olds hlo holds n h0 hs0 hg h63 h48 hfit
  room h0 g sLen sCap cur hg h63 h48 h1 hroom hfit := run_appendN_room t ti ty e inf z ki k hu hti hi hz g sLen sCap cur hg n h0 hs0 h63 h48 h1 hroom hfit

theorem srcZ_run {c : Cfg A} {X : Nat → Prop} {W0 W : World} {β : Adr} {m : Mem A} {t t' ty e : TypeId} {sz : Nat} {inf : TypeInfo} {zl : List (SV A)} {z : Value} {yv : TV A} {g : Nat → A} {j n : Nat} {vc : List Prop} {w : Value} (hm : MRel c X W0 β m W)
    (h : srcZ c m t t' sz zl yv = some (g, j, n, vc)) (hvc : ∀ p ∈ vc, p) (hu : c.P.underlying t = some (.slice e)) (hinf : c.P.info? e = some inf) (hsz : inf.size = sz) (h0 : 0 < sz) (hz : inf.zero = some z) (hzl : LIs β zl z.cells.toList) (hy : yv.Is β w) :
    ∃ news : List Value, AppSrc c.P t ty e inf z #[t, t'] w n news W ∧ news.length = n * sz ∧ (∀ (q : Nat) x, news[q]? = some x → Atom.cells (g (j + q)) = [x]) := by
  unfold srcZ at h
  split at h
  · rename_i htt
    subst htt
    obtain ⟨p, cp, news, rfl, s1, s2, s3, s4⟩ := srcV_run hm h hvc hy h0
    exact ⟨news, AppSrc.ofSlice hu hinf hz s1 (by rw [s2, hsz]) s3, s2, s4⟩
  · split at h
    · rename_i ki kk x hti
      split at h
      · rename_i a r hlit
        split at h
        · rename_i hlen
          simp only [Option.some.injEq, Prod.mk.injEq] at h
          obtain ⟨rfl, rfl, rfl, rfl⟩ := h
          obtain ⟨x0, x1⟩ : 0 ≤ x ∧ x ≤ 9223372036854775807 := hvc _ (by simp)
          have hw : w = .int kk x := by
            have := LIs.single (hy : LIs β _ [w])
            simpa [SV.Is] using this
          subst hw
          obtain ⟨k, hk⟩ := Int.eq_ofNat_of_zero_le x0
          subst hk
          obtain ⟨q1, q2⟩ := litsA_is hlit (flat_is hzl)
          have hzs : z.cells.size = sz := by rw [← hlen, ← q1]; simp
          refine ⟨(Builtin.zeroCells z.cells k).toList, by rw [Int.toNat_natCast]; exact AppSrc.ofInt hu hti hinf hz (by omega) k, by rw [Array.length_toList, size_zeroCells, hzs, Int.toNat_natCast], fun q y hq => ?_⟩
          rw [Nat.zero_add]
          have hql := (List.getElem?_eq_some_iff.1 hq).1
          have hqm : q % sz < (a :: r).length := by rw [hlen]; exact Nat.mod_lt _ h0
          obtain ⟨u, u1, u2⟩ := q2 (q % sz) _ (List.getElem?_eq_getElem hqm)
          have hy2 : y = u := by
            have e1 : (Builtin.zeroCells z.cells k).toList[q]? = some (z.cells[q % z.cells.size]!) := by
              unfold Builtin.zeroCells at hql ⊢
              rw [Array.toList_map, List.getElem?_map, Array.toList_range, List.getElem?_range (by simpa using hql)]
              rfl
            rw [e1] at hq
            have e2 : z.cells[q % z.cells.size]? = some u := by rw [hzs]; simpa using u1
            rw [← Option.some.inj hq]
            rw [getElem!_def, e2]
          show Atom.cells (((a :: r)[q % sz]?).getD a) = [y]
          rw [hy2, List.getElem?_eq_getElem hqm]
          exact u2
        · cases h
      · cases h
    · cases h

theorem grow_core {c : Cfg A} {X : Nat → Prop} {W0 W : World} {β : Adr} {m : Mem A} {e t ty : TypeId} {sz i v k nx n cap : Nat} {bo : Option Nat} {u y : Value} {ats : Array TypeId} {news : List Value} {inf : TypeInfo} {z : Value}
    (hm : MRel c X W0 β m W) (htop : Top β m) (hi : nth m i = some (some ⟨[.mk v k], e, false⟩)) (hgs : β.gs i v = some (bo, cap)) (hk : nx * sz = k)
    (hu : c.P.underlying t = some (.slice e)) (hinf : c.P.info? e = some inf) (hsz : inf.size = sz) (h0 : 0 < sz) (hz : inf.zero = some z) (hzl : z.cells.size = sz)
    (hun : bo = none → u = .slice none 0 0 ∧ nx = 0) (hus : ∀ b, bo = some b → u = .slice (some ⟨b, 0, none⟩) nx cap ∧ nx ≤ cap)
    (hsrc : AppSrc c.P t ty e inf z ats y n news W) (hnl : news.length = n * sz) (h1 : ∀ x ∈ news, x.oneCell' = true) (hf : Bears (nx + n) inf.bytes) :
    ∃ r W' β' vs, (Builtin.append_ ats ty #[u, y]).run c.P W = .ok r W' ∧ Adr.le β β' ∧ MRel c X W0 β' (setN m i (some ⟨[.mk (v + 1) (k + n * sz)], e, false⟩)) W' ∧
      Top β' (setN m i (some ⟨[.mk (v + 1) (k + n * sz)], e, false⟩)) ∧ NC W W' ∧ vs.length = k ∧ (∀ b, bo = some b → ∀ j x, j < k → W.cell? ⟨b, j, none⟩ = some x → vs[j]? = some x) ∧
      ∀ f' : Nat → A, (∀ q x, (vs ++ news)[q]? = some x → Atom.cells (f' q) = [x]) → (SV.gr f' i (v + 1) (nx + n) sz).Is β' [r] := by
  have hv := hm.vec i _ v k [] hi rfl
  obtain ⟨bo', cap', vs, sz', g1, g2, g3, g4, g5⟩ := hv.lies
  have e1 := g1.symm.trans hgs
  simp only [Option.some.injEq, Prod.mk.injEq] at e1
  obtain ⟨rfl, rfl⟩ := e1
  have hs : sizeT c.P e = some sz := by unfold sizeT; rw [hinf]; simp [hsz]
  have e2 : sz' = sz := Option.some.inj (g2.symm.trans hs)
  subst e2
  have hmul : (nx + n) * sz' = k + n * sz' := by rw [Nat.add_mul, hk]
  obtain ⟨f1, f2⟩ := hf
  have small : nx + n ≤ 9223372036854775807 := by simp only [maxLen] at f2; omega
  have vsame : ∀ b, bo' = some b → ∀ j x, j < k → W.cell? ⟨b, j, none⟩ = some x → vs[j]? = some x := by
    intro b hb j x hj hx
    obtain ⟨_, tail, q1, q2⟩ := g5 b hb
    rw [cell_of_row W b j _ _ _ q1] at hx
    simp only [List.getElem?_toArray] at hx
    rw [List.getElem?_append_left (by omega)] at hx
    exact hx
  -- what a turn hands on
  have fin : ∀ {W' : World} {b' capn : Nat} {ws : List Value} {q : List Value}, ws = vs ++ news → nx + n ≤ capn → ∀ f' : Nat → A, (∀ q x, (vs ++ news)[q]? = some x → Atom.cells (f' q) = [x]) →
      (SV.gr f' i (v + 1) (nx + n) sz').Is (β.grow i (v + 1) (some b', capn) (fun a u => ∃ j, a = ⟨b', j, none⟩ ∧ ws[j]? = some u)) [.slice (some ⟨b', 0, none⟩) (nx + n) capn] := by
    rintro W' b' capn ws q rfl hcap f' hf'
    show growsIs _ f' (nx + n) sz' _ _
    rw [Adr.grow_new]
    refine ⟨rfl, hcap, fun j hj => ?_⟩
    have hlen : j < (vs ++ news).length := by rw [List.length_append, g3, hnl, ← hmul]; exact hj
    have hx := List.getElem?_eq_getElem hlen
    exact ⟨_, .inr ⟨j, by rw [add_none, Nat.zero_add], hx⟩, by rw [Nat.zero_add]; exact hf' j _ hx⟩
  have hlen : (vs ++ news).length = k + n * sz' := by rw [List.length_append, g3, hnl]
  rcases Nat.eq_zero_or_pos n with rfl | hn
  · have hn0 : news = [] := List.eq_nil_of_length_eq_zero (by rw [hnl, Nat.zero_mul])
    subst hn0
    cases bo' with
    | none =>
      obtain ⟨rfl, rfl⟩ := hun rfl
      obtain ⟨hk0, _⟩ := hv.nil _ hgs
      subst hk0
      obtain ⟨t1, t2, t3⟩ := hm.turnNil hi hgs
      refine ⟨_, W, _, vs, hsrc.zero rfl none 0 0 (Nat.le_refl _), t2, by simpa using t1, by simpa using t3 htop, NC.refl W, g3, vsame, fun f' hf' => ?_⟩
      show growsIs _ f' (0 + 0) sz' _ _
      rw [Adr.grow_new]
      exact ⟨rfl, rfl⟩
    | some b =>
      obtain ⟨rfl, hnx⟩ := hus b rfl
      obtain ⟨_, tail, q1, q2⟩ := g5 b rfl
      obtain ⟨t1, t2, t3, t4⟩ := hm.grow (W' := W) (row := some b) (b' := b) (vs := vs) (tail := tail) (cap' := cap') hi hs hgs (.inr rfl) ⟨rfl, rfl, rfl, Nat.le_refl _, fun _ _ _ => rfl⟩ q1 q2 g4 (.inl rfl)
        (fun _ => ⟨by omega, fun j x hj hx => vsame b rfl j x hj hx⟩)
      rw [g3] at t1 t4
      refine ⟨_, W, _, vs, hsrc.zero rfl (some ⟨b, 0, none⟩) nx cap' hnx, t2, by simpa using t1, by simpa using t4 htop, NC.refl W, g3, vsame, fun f' hf' => ?_⟩
      exact fin (W' := W) (q := []) (by simp) hnx f' hf'
  · have hnb : n * inf.bytes ≤ 281474976710656 := by
      have : n * inf.bytes ≤ (nx + n) * inf.bytes := Nat.mul_le_mul_right _ (Nat.le_add_left _ _)
      omega
    · cases bo' with
      | none =>
        obtain ⟨rfl, rfl⟩ := hun rfl
        obtain ⟨hk0, _⟩ := hv.nil _ hgs
        subst hk0
        have hvs : vs = [] := List.eq_nil_of_length_eq_zero g3
        subst hvs
        rw [Nat.zero_add] at small f1 f2
        have hr := hsrc.nil hn (by omega) hnb
        have hge := grownCap_ge W n 0 e
        have hcm := grownCap_le_maxLen W n 0 e f2
        have harr : (news.toArray ++ Builtin.zeroCells z.cells (grownCap W n 0 e - n)) = (news ++ (Builtin.zeroCells z.cells (grownCap W n 0 e - n)).toList).toArray := by
          apply Array.toList_inj.1; simp
        obtain ⟨t1, t2, t3, t4⟩ := hm.grow (W' := W.drew.alloc (.cells (news.toArray ++ Builtin.zeroCells z.cells (grownCap W n 0 e - n)) e)) (row := none) (b' := W.heap.size) (vs := news) (tail := (Builtin.zeroCells z.cells (grownCap W n 0 e - n)).toList) (cap' := grownCap W n 0 e) hi hs hgs (.inl rfl)
          ⟨rfl, rfl, rfl, by simp, fun k hk _ => heap_alloc_old W.drew _ hk⟩ (by rw [← harr]; exact heap_alloc_new W.drew _) (by
            rw [List.length_append, hnl, Array.length_toList, size_zeroCells, hzl, ← Nat.add_mul]
            congr 1
            omega) hcm (.inr ⟨rfl, Nat.le_refl _⟩) (fun h => by cases h)
        rw [hnl] at t1 t4
        refine ⟨_, _, _, [], hr, t2, by simpa using t1, by simpa using t4 htop, t3, rfl, vsame, fun f' hf' => ?_⟩
        have := fin (W' := W) (b' := W.heap.size) (capn := grownCap W n 0 e) (ws := news) (q := []) (by simp) (by omega) f' hf'
        simpa using this
      | some b =>
        obtain ⟨rfl, hnx⟩ := hus b rfl
        obtain ⟨_, tail, q1, q2⟩ := g5 b rfl
        rcases Nat.lt_or_ge cap' (nx + n) with hroom | hroom
        · have hr := hsrc.grow hn ⟨b, 0, none⟩ nx cap' vs (by rw [g3, ← hk, hsz]) (fun j x hj => by
            rw [add_none, Nat.zero_add, cell_of_row W b j _ _ _ q1]
            have hlt := (List.getElem?_eq_some_iff.1 hj).1
            simp only [List.getElem?_toArray]
            rw [List.getElem?_append_left hlt]
            exact hj) hroom (by omega) hnb (growslice_fits hroom f1)
          have hge := grownCap_ge W (nx + n) cap' e
          have hcm := grownCap_le_maxLen W (nx + n) cap' e f2
          have harr : (vs.toArray ++ news.toArray ++ Builtin.zeroCells z.cells (grownCap W (nx + n) cap' e - (nx + n))) = (vs ++ news ++ (Builtin.zeroCells z.cells (grownCap W (nx + n) cap' e - (nx + n))).toList).toArray := by
            apply Array.toList_inj.1; simp
          obtain ⟨t1, t2, t3, t4⟩ := hm.grow (W' := W.drew.alloc (.cells (vs.toArray ++ news.toArray ++ Builtin.zeroCells z.cells (grownCap W (nx + n) cap' e - (nx + n))) e)) (row := none) (b' := W.heap.size) (vs := vs ++ news) (tail := (Builtin.zeroCells z.cells (grownCap W (nx + n) cap' e - (nx + n))).toList)
            (cap' := grownCap W (nx + n) cap' e) hi hs hgs (.inl rfl) ⟨rfl, rfl, rfl, by simp, fun k hk _ => heap_alloc_old W.drew _ hk⟩ (by rw [← harr]; exact heap_alloc_new W.drew _) (by
            rw [List.length_append, hlen, ← hmul, Array.length_toList, size_zeroCells, hzl, ← Nat.add_mul]
            congr 1
            omega) hcm (.inr ⟨rfl, Nat.le_refl _⟩) (fun h => by cases h)
          rw [hlen] at t1 t4
          exact ⟨_, _, _, vs, hr, t2, t1, t4 htop, t3, g3, vsame, fun f' hf' => fin (W' := W) (q := []) rfl hge f' hf'⟩
        · have hfit : (nx + n) * sz' ≤ cap' * sz' := Nat.mul_le_mul_right _ hroom
          have hr := hsrc.room hn b nx cap' (vs ++ tail).toArray q1 (by omega) hnb h1 hroom (by
            rw [hsz, hk, hnl, List.size_toArray, q2]; omega)
          have htk : (vs ++ tail).toArray.toList.take (nx * inf.size) ++ news ++ (vs ++ tail).toArray.toList.drop (nx * inf.size + news.length) = (vs ++ news) ++ tail.drop news.length := by
            rw [hsz, hk]
            simp only
            rw [List.take_left' g3, List.drop_append, g3]
            have hd0 : vs.drop (k + news.length) = [] := List.drop_of_length_le (by omega)
            rw [hd0, show k + news.length - k = news.length by omega]
            simp
          have hrow := setRow_at W b b ((vs ++ news) ++ tail.drop news.length).toArray _ _ _ q1
          rw [if_pos rfl] at hrow
          rw [htk] at hr
          have htl : tail.length = cap' * sz' - k := by rw [List.length_append, g3] at q2; omega
          obtain ⟨t1, t2, t3, t4⟩ := hm.grow (W' := W.setRow b ((vs ++ news) ++ tail.drop news.length).toArray) (row := some b) (b' := b) (vs := vs ++ news) (tail := tail.drop news.length) (cap' := cap') hi hs hgs (.inr rfl)
            ⟨rfl, rfl, rfl, by rw [size_setRow]; exact Nat.le_refl _, fun d hd hne => by rw [setRow_at W b d _ _ _ _ q1, if_neg (fun e => hne (by rw [e]))]⟩ hrow (by
              rw [List.length_append, hlen, List.length_drop, htl, hnl]; omega) g4 (.inl rfl) (fun _ => ⟨by rw [hlen]; omega, fun j x hj hx => by
                rw [List.getElem?_append_left (by omega)]
                exact vsame b rfl j x hj hx⟩)
          rw [hlen] at t1 t4
          exact ⟨_, _, _, vs, hr, t2, t1, t4 htop, t3, g3, vsame, fun f' hf' => fin (W' := W) (q := []) rfl hroom f' hf'⟩

theorem setN_snoc {α : Type} : ∀ (l : List α) (x y : α), setN (l ++ [x]) l.length y = l ++ [y]
  | [], _, _ => rfl
  | _ :: l, x, y => by simp [setN, setN_snoc l x y]

theorem appendW_run {c : Cfg A} {X : Nat → Prop} {W0 W : World} {β : Adr} {m m' : Mem A} {e t t' ty : TypeId} {sz : Nat} {inf : TypeInfo} {z : Value} {zl : List (SV A)} {xv yv v : TV A} {vc : List Prop} {u w : Value} (hm : MRel c X W0 β m W) (htop : Top β m)
    (h : appendW (srcZ c m t t' sz zl yv) m e sz inf.bytes xv = some (v, m', vc)) (hvc : ∀ p ∈ vc, p) (hu : c.P.underlying t = some (.slice e)) (hinf : c.P.info? e = some inf) (hsz : inf.size = sz) (h0 : 0 < sz) (hz : inf.zero = some z) (hzl : z.cells.size = sz)
    (hzi : LIs β zl z.cells.toList) (hx : xv.Is β u) (hy : yv.Is β w) :
    ∃ r W' β', (Builtin.append_ #[t, t'] ty #[u, w]).run c.P W = .ok r W' ∧ Adr.le β β' ∧ v.Is β' r ∧ MRel c X W0 β' m' W' ∧ Top β' m' ∧ NC W W' := by
  have hs : sizeT c.P e = some sz := by unfold sizeT; rw [hinf]; simp [hsz]
  unfold appendW at h
  split at h
  · rename_i g j n vc0 hsrc
    split at h
    · -- onto nil
      simp only [Option.some.injEq, Prod.mk.injEq] at h
      obtain ⟨rfl, rfl, rfl⟩ := h
      obtain ⟨news, s1, s2, s4⟩ := srcZ_run (ty := ty) hm hsrc (fun q hq => hvc q (by simp [hq])) hu hinf hsz h0 hz hzi hy
      have hf : Bears n inf.bytes := hvc _ (by simp)
      obtain ⟨ev, _⟩ := LIs.single (hx : LIs β _ [u])
      simp at ev; subst ev
      have ht1 := hm.token htop hs
      have hle1 : Adr.le β (β.grow m.length 0 (none, 0) (fun _ _ => False)) := Adr.le_grow ((htop m.length (Nat.le_refl _)).2 0)
      have htop1 : Top (β.grow m.length 0 (none, 0) (fun _ _ => False)) (m ++ [some ⟨[.mk 0 0], e, false⟩]) := fun q hq => by
        simp at hq
        refine ⟨(htop q (by omega)).1, fun w => ?_⟩
        rw [Adr.grow_old (fun e => by omega)]
        exact (htop q (by omega)).2 w
      obtain ⟨r, W', β', vs, k1, k2, k3, k4, k5, k6, k7, k8⟩ := grow_core (t := t) (ty := ty) (nx := 0) (n := n) (news := news) (u := .slice none 0 0) ht1 htop1 (nth_snoc _ _) (Adr.grow_new ..) (Nat.zero_mul _) hu hinf hsz h0 hz hzl
        (fun _ => ⟨rfl, rfl⟩) (fun b hb => by cases hb) s1 s2 (fun x hxm => by
          obtain ⟨q, hq⟩ := List.getElem?_of_mem hxm
          have := s4 q x hq
          exact Atom.one _ x (by rw [this]; simp)) (by rw [Nat.zero_add]; exact hf)
      have hvs : vs = [] := List.eq_nil_of_length_eq_zero k6
      subst hvs
      rw [setN_snoc] at k3 k4
      refine ⟨r, W', β', k1, Adr.le_trans hle1 k2, LIs.of_single ?_, by rw [timesN_eq]; simpa using k3, by rw [timesN_eq]; simpa using k4, k5⟩
      have := k8 (fun q => g (j + q)) (fun q x hq => s4 q x (by simpa using hq))
      simpa using this
    · -- onto a growing slice
      rename_i f i tv kx sz'
      split at h
      · rename_i tv' k' e' hblk
        split at h
        · rename_i he
          obtain ⟨rfl, rfl⟩ := he
          simp only [Option.some.injEq, Prod.mk.injEq] at h
          obtain ⟨rfl, rfl, rfl⟩ := h
          obtain ⟨news, s1, s2, s4⟩ := srcZ_run (ty := ty) hm hsrc (fun q hq => hvc q (by simp [hq])) hu hinf hsz h0 hz hzi hy
          obtain ⟨rfl, hk, hf⟩ : tv = tv' ∧ timesN kx sz = k' ∧ Bears (kx + n) inf.bytes := hvc _ (by simp)
          rw [timesN_eq] at hk
          have ex : growsIs β f kx sz [u] (β.gs i tv) := LIs.single (hx : LIs β _ [u])
          obtain ⟨⟨bo, cap⟩, hgs⟩ := ex.some
          rw [hgs] at ex
          obtain ⟨r, W', β', vs, k1, k2, k3, k4, k5, k6, k7, k8⟩ := grow_core (t := t) (ty := ty) (nx := kx) (n := n) (news := news) (u := u) hm htop hblk hgs hk hu hinf hsz h0 hz hzl
            (fun hb => by subst hb; obtain ⟨h1, h2⟩ := ex; simp at h2; exact ⟨h2, h1⟩) (fun b hb => by subst hb; obtain ⟨h1, h2, _⟩ := ex; simp at h1; exact ⟨h1, h2⟩) s1 s2 (fun x hxm => by
              obtain ⟨q, hq⟩ := List.getElem?_of_mem hxm
              have := s4 q x hq
              exact Atom.one _ x (by rw [this]; simp)) hf
          refine ⟨r, W', β', k1, k2, LIs.of_single (k8 _ (catF_cells (by rw [k6, timesN_eq, hk]) (fun q x hq => ?_) s4)), by rw [timesN_eq n sz]; exact k3, by rw [timesN_eq n sz]; exact k4, k5⟩
          have hq1 := (List.getElem?_eq_some_iff.1 hq).1
          cases bo with
          | none => obtain ⟨h1, _⟩ := ex; subst h1; omega
          | some b =>
            obtain ⟨_, _, hkn⟩ := ex
            obtain ⟨y, g1, g2⟩ := hkn q (by omega)
            rw [add_none, Nat.zero_add] at g1
            have := k7 b rfl q y (by omega) (hm.kn _ _ g1).1
            rw [hq] at this
            have := Option.some.inj this
            subst this
            rw [Nat.zero_add] at g2
            exact g2
        · cases h
      · cases h
    · -- onto a slice of ours without room
      rename_i i off kx cpx
      split at h
      · rename_i blk hb
        split at h
        · rename_i l hl
          split at h
          · rename_i x r hlit
            split at h
            · rename_i hlen
              obtain ⟨hlen, rfl⟩ := hlen
              simp only [Option.some.injEq, Prod.mk.injEq] at h
              obtain ⟨rfl, rfl, rfl⟩ := h
              obtain ⟨news, s1, s2, s4⟩ := srcZ_run (ty := ty) hm hsrc (fun q hq => hvc q (by simp [hq])) hu hinf hsz h0 hz hzi hy
              obtain ⟨hn, hf1, hf2⟩ : 0 < n ∧ Bears (kx + n) inf.bytes := hvc _ (by simp)
              obtain ⟨b, hb1, e1⟩ := LIs.single (hx : LIs β _ [u])
              simp at e1; subst e1
              obtain ⟨b', us, fz, hb2, hvs, hheap, _⟩ := hm.mem' hb hb1
              have : b' = b := by rw [hb1] at hb2; exact (Option.some.inj hb2).symm
              subst this
              obtain ⟨h1, h2⟩ := cut_is hvs hl
              rw [timesN_eq] at h1 h2 hlen
              obtain ⟨q1, q2⟩ := litsA_is hlit (flat_is h1)
              obtain ⟨olds, hol⟩ : ∃ olds, olds = (us.drop off).take (kx * sz) := ⟨_, rfl⟩
              have hll : olds.length = kx * sz := by rw [hol]; simp; omega
              · have hnb : n * inf.bytes ≤ 281474976710656 := by
                  have : n * inf.bytes ≤ (kx + n) * inf.bytes := Nat.mul_le_mul_right _ (Nat.le_add_left _ _)
                  omega
                have small : kx + n ≤ 9223372036854775807 := by simp only [maxLen] at hf2; omega
                have hroom : kx < kx + n := by omega
                have hr := s1.grow hn ⟨b', off, none⟩ kx kx olds (by rw [hll, hsz]) (fun q y hq => by
                  rw [add_none, cell_of_row W b' (off + q) _ _ fz hheap]
                  have hlt := (List.getElem?_eq_some_iff.1 hq).1
                  rw [hol, List.getElem?_take, if_pos (by omega), List.getElem?_drop] at hq
                  simpa using hq) hroom (by omega) hnb (growslice_fits hroom hf1)
                have hge := grownCap_ge W (kx + n) kx e
                have hcm := grownCap_le_maxLen W (kx + n) kx e hf2
                have harr : (olds.toArray ++ news.toArray ++ Builtin.zeroCells z.cells (grownCap W (kx + n) kx e - (kx + n))) = (olds ++ news ++ (Builtin.zeroCells z.cells (grownCap W (kx + n) kx e - (kx + n))).toList).toArray := by
                  apply Array.toList_inj.1; simp
                have ht1 := hm.token htop hs
                have hle1 : Adr.le β (β.grow m.length 0 (none, 0) (fun _ _ => False)) := Adr.le_grow ((htop m.length (Nat.le_refl _)).2 0)
                have htop1 : Top (β.grow m.length 0 (none, 0) (fun _ _ => False)) (m ++ [some ⟨[.mk 0 0], e, false⟩]) := fun q hq => by
                  simp at hq
                  refine ⟨(htop q (by omega)).1, fun w => ?_⟩
                  rw [Adr.grow_old (fun e => by omega)]
                  exact (htop q (by omega)).2 w
                have hlen2 : (olds ++ news).length = (kx + n) * sz := by rw [List.length_append, hll, s2, ← Nat.add_mul]
                obtain ⟨t1, t2, t3, t4⟩ := ht1.grow (W' := W.drew.alloc (.cells (olds.toArray ++ news.toArray ++ Builtin.zeroCells z.cells (grownCap W (kx + n) kx e - (kx + n))) e)) (row := none) (b' := W.heap.size) (vs := olds ++ news)
                  (tail := (Builtin.zeroCells z.cells (grownCap W (kx + n) kx e - (kx + n))).toList) (cap' := grownCap W (kx + n) kx e) (nth_snoc _ _) hs (Adr.grow_new ..) (.inl rfl) ⟨rfl, rfl, rfl, by simp, fun k hk _ => heap_alloc_old W.drew _ hk⟩
                  (by rw [← harr]; exact heap_alloc_new W.drew _) (by
                    rw [List.length_append, hlen2, Array.length_toList, size_zeroCells, hzl, ← Nat.add_mul]
                    congr 1
                    omega) hcm (.inr ⟨rfl, Nat.le_refl _⟩) (fun h => by cases h)
                rw [setN_snoc, hlen2] at t1 t4
                refine ⟨_, _, _, hr, Adr.le_trans hle1 t2, LIs.of_single ?_, by rw [timesN_eq]; exact t1, by rw [timesN_eq]; exact t4 htop1, t3⟩
                show growsIs _ _ (kx + n) sz _ _
                rw [Adr.grow_new]
                refine ⟨rfl, hge, fun q hq => ?_⟩
                have hql : q < (olds ++ news).length := by rw [hlen2]; exact hq
                have hqx := List.getElem?_eq_getElem hql
                refine ⟨_, .inr ⟨q, by rw [add_none, Nat.zero_add], hqx⟩, ?_⟩
                rw [Nat.zero_add]
                refine catF_cells (by rw [hll, timesN_eq]) (fun q y hq => ?_) s4 q _ hqx
                have hlt := (List.getElem?_eq_some_iff.1 hq).1
                have hlt' : q < (x :: r).length := by omega
                obtain ⟨y', r1, r2⟩ := q2 q _ (List.getElem?_eq_getElem hlt')
                rw [← hol, hq] at r1
                have := Option.some.inj r1
                subst this
                rw [List.getElem?_eq_getElem hlt']
                exact r2
            · cases h
          · cases h
        · cases h
      · cases h
    · cases h
  · cases h

theorem appendV_run {q : Bool} {c : Cfg A} {X : Nat → Prop} {W0 W : World} {β : Adr} {m m' : Mem A} {e t t' ty : TypeId} {sz : Nat} {inf : TypeInfo} {z : Value} {zl : List (SV A)} {xv yv v : TV A} {vc : List Prop} {u w : Value} (hm : MRel c X W0 β m W) (htop : Top β m)
    (h : appendV q (srcZ c m t t' sz zl yv) m e sz inf.bytes xv = some (v, m', vc)) (hvc : ∀ p ∈ vc, p) (hu : c.P.underlying t = some (.slice e)) (hinf : c.P.info? e = some inf) (hsz : inf.size = sz) (h0 : 0 < sz) (hz : inf.zero = some z) (hzl : z.cells.size = sz)
    (hzi : LIs β zl z.cells.toList) (hx : xv.Is β u) (hy : yv.Is β w) :
    ∃ r W' β', (Builtin.append_ #[t, t'] ty #[u, w]).run c.P W = .ok r W' ∧ Adr.le β β' ∧ v.Is β' r ∧ MRel c X W0 β' m' W' ∧ Top β' m' ∧ NC W W' := by
  unfold appendV at h
  split at h
  · split at h
    · rename_i g j n vc0 i off k cp hsrc
      simp only [Option.some.injEq, Prod.mk.injEq] at h
      obtain ⟨rfl, rfl, rfl⟩ := h
      obtain ⟨news, s1, s2, s4⟩ := srcZ_run (ty := ty) hm hsrc (fun q hq => hvc q (by simp [hq])) hu hinf hsz h0 hz hzi hy
      obtain ⟨hn, hk⟩ : n = 0 ∧ k ≤ cp := hvc _ (by simp)
      obtain ⟨b, hb1, e1⟩ := LIs.single (hx : LIs β _ [u])
      simp at e1; subst e1
      exact ⟨_, W, β, s1.zero hn _ _ _ hk, Adr.le_refl β, hx, hm, htop, NC.refl W⟩
    · cases h
  · exact appendW_run (t := t) (t' := t') (ty := ty) hm htop h hvc hu hinf hsz h0 hz hzl hzi hx hy

theorem callX_vc {c : Cfg A} {st st' : St A} {d : Option Tmp} {g : FuncId} {l : List (TV A)} (h : callX c st d g l = some st') : ∀ p ∈ st.vc, p ∈ st'.vc := by
  have hp : ∀ (s : St A) d v, (putT s d v).vc = s.vc := by intro s d v; cases d <;> rfl
  unfold callX at h
  split at h <;> (try cases h) <;> (intro p hp'; simp [hp, hp'])

theorem exec1_vc {c : Cfg A} {st st' : St A} {o : Oper} (h : exec1 c st o = some st') : ∀ p ∈ st.vc, p ∈ st'.vc := by
  have hp : ∀ (s : St A) d v, (putT s d v).vc = s.vc := by intro s d v; cases d <;> rfl
  unfold exec1 at h
  split at h <;> (try (repeat' split at h)) <;> first | (cases h; done) | exact callX_vc h | (cases h; intro p hp'; simp [hp, hp'])

theorem putT_vc' (s : St A) (d : Option Tmp) (v : TV A) : (putT s d v).vc = s.vc := by cases d <;> rfl
theorem LIs.atom {β : Adr} {x : A} {vs : List Value} (h : vs = Atom.cells x) : LIs β [.a x] vs := ⟨vs, [], h, rfl, by simp⟩
theorem storeV_run {c : Cfg A} {X : Nat → Prop} {W0 W : World} {β : Adr} {m m' : Mem A} {t : TypeId} {xv yv : TV A} {u v : Value} {vc : List Prop} (hm : MRel c X W0 β m W) (h : storeV c.P m t xv yv = some (m', vc)) (hvc : ∀ p ∈ vc, p) (hx : xv.Is β u) (hy : yv.Is β v) :
    ∃ W', (Instr.storeAt t u v).run c.P W = .ok () W' ∧ MRel c X W0 β m' W' ∧ (Top β m → Top β m') ∧ NC W W' := by
  unfold storeV at h
  split at h
  · rename_i i off l hl
    split at h
    · rename_i blk hb
      split at h
      · rename_i cells hro ho
        split at h
        · rename_i hsz
          simp only [Option.some.injEq, Prod.mk.injEq] at h
          obtain ⟨rfl, rfl⟩ := h
          obtain ⟨b, hb1, e⟩ := LIs.single (hx : LIs β _ [u])
          simp at e; subst e
          obtain ⟨b', us, fz, g1, g2, g3, g4⟩ := hm.mem' hb hb1
          have : b' = b := by rw [hb1] at g1; exact (Option.some.inj g1).symm
          subst this
          obtain ⟨rfl, gx⟩ := g4 hro
          have hy' := cellsT_is hy hl
          obtain ⟨h1, h2⟩ := over_is g2 hy' ho
          have hs : sizeT c.P t = some v.cells.toList.length := by rw [hsz, hy'.len]
          exact ⟨_, by simp [Instr.storeAt, Instr.sureAddr, run_storePart hs g3 h2 hy'.one], hm.setRow hb1 hb hro g3 h1, fun ht => ht.setN, NC.setRow g3 _⟩
        · cases h
      · cases h
    · cases h
  · rename_i i off n z s hl
    split at h
    · rename_i blk hb
      split at h
      · rename_i x hwd
        split at h
        · rename_i y hro hy1 hsz
          split at h
          · rename_i row' hset
            simp only [Option.some.injEq, Prod.mk.injEq] at h
            obtain ⟨rfl, rfl⟩ := h
            have hxn : Atom.size x = n := hvc _ (by simp)
            obtain ⟨hz, b, hb1, e⟩ := LIs.single (hx : LIs β _ [u])
            simp at e; subst e
            obtain ⟨b', us, fz, g1, g2, g3, g4⟩ := hm.mem' hb hb1
            have : b' = b := by rw [hb1] at g1; exact (Option.some.inj g1).symm
            subst this
            obtain ⟨rfl, gx⟩ := g4 hro
            have hy' := cellsT_is hy hl
            obtain ⟨x1, q, hx1, hq, e⟩ := hy'
            obtain rfl : q = [] := hq
            rw [List.append_nil] at e
            subst e
            obtain ⟨rfl, hcs⟩ := wideOf_is hwd
            have hvx := hcs g2
            obtain ⟨w, k1, k2⟩ := Atom.set_ok hset (by omega)
            have e2 := atomOf_is hx1 hy1
            rw [k1] at e2
            have hul : us.length = Atom.size x := by rw [hvx, Atom.len]
            have hnew : LIs β [.a row'] (us.set z w) := by
              refine ⟨_, [], rfl, rfl, ?_⟩
              rw [List.append_nil, k2, ← hvx]
            have hs : sizeT c.P t = some v.cells.toList.length := by rw [e2]; exact hsz
            have hone : ∀ x ∈ v.cells.toList, x.oneCell' = true := SV.Is.one hx1
            have hst := run_storePart (P := c.P) (w := W) (off := 0 + z) (v := v) hs g3 (by rw [e2]; simp; omega) hone
            rw [e2] at hst
            have e3 : us.take (0 + z) ++ [w] ++ us.drop (0 + z + [w].length) = us.set z w := by
              rw [List.set_eq_take_append_cons_drop, if_pos (by omega), Nat.zero_add]
              simp [List.append_assoc]
            rw [e3, Nat.zero_add] at hst
            exact ⟨_, by simp [Instr.storeAt, Instr.sureAddr, hst], hm.setRow hb1 hb hro g3 hnew, fun ht => ht.setN, NC.setRow g3 _⟩
          · cases h
        · cases h
      split at h
      · rename_i l y hro hc hy1 hsz
        split at h
        · rename_i row hrow
          split at h
          · rename_i hn
            split at h
            · rename_i row' hset
              split at h
              · rename_i cells ho
                simp only [Option.some.injEq, Prod.mk.injEq] at h
                obtain ⟨rfl, rfl⟩ := h
                obtain ⟨hz, b, hb1, e⟩ := LIs.single (hx : LIs β _ [u])
                simp at e; subst e
                obtain ⟨b', us, fz, g1, g2, g3, g4⟩ := hm.mem' hb hb1
                have : b' = b := by rw [hb1] at g1; exact (Option.some.inj g1).symm
                subst this
                obtain ⟨rfl, gx⟩ := g4 hro
                have hy' := cellsT_is hy hl
                obtain ⟨x, q, hx1, hq, e⟩ := hy'
                obtain rfl : q = [] := hq
                rw [List.append_nil] at e
                subst e
                obtain ⟨h1, h2⟩ := cut_is g2 hc
                have hr := rowA_is h1 hrow
                obtain ⟨w, k1, k2⟩ := Atom.set_ok hset (by omega)
                have e2 := atomOf_is hx1 hy1
                rw [k1] at e2
                have hrl : ((us.drop off).take n).length = n := by simp; omega
                have hnew : LIs β [.a row'] (((us.drop off).take n).set z w) := by
                  refine ⟨_, [], rfl, rfl, ?_⟩
                  rw [List.append_nil, k2, ← hr]
                obtain ⟨o1, o2⟩ := over_is g2 hnew ho
                rw [List.length_set, hrl] at o1 o2
                have hs : sizeT c.P t = some v.cells.toList.length := by rw [e2]; exact hsz
                have hone : ∀ x ∈ v.cells.toList, x.oneCell' = true := SV.Is.one hx1
                have hst := run_storePart (P := c.P) (w := W) (off := off + z) (v := v) hs g3 (by rw [e2]; simp; omega) hone
                rw [e2] at hst
                have e3 : us.take (off + z) ++ [w] ++ us.drop (off + z + [w].length) = us.take off ++ ((us.drop off).take n).set z w ++ us.drop (off + n) := by
                  have hz' : z < ((us.drop off).take n).length := by omega
                  rw [List.set_eq_take_append_cons_drop, if_pos hz']
                  have a1 : us.take (off + z) = us.take off ++ (us.drop off).take z := by rw [List.take_add]
                  have a2 : ((us.drop off).take n).take z = (us.drop off).take z := by rw [List.take_take]; congr 1; omega
                  have a3 : us.drop (off + z + 1) = ((us.drop off).take n).drop (z + 1) ++ us.drop (off + n) := by
                    rw [List.drop_take, List.drop_drop]
                    have : us.drop (off + n) = (us.drop (off + (z + 1))).drop (n - (z + 1)) := by rw [List.drop_drop]; congr 1; omega
                    rw [this, List.take_append_drop]
                    congr 1
                  rw [a1, a2]
                  show _ ++ us.drop (off + z + 1) = _
                  rw [a3]
                  simp [List.append_assoc]
                rw [e3] at hst
                exact ⟨_, by simp [Instr.storeAt, Instr.sureAddr, hst], hm.setRow hb1 hb hro g3 o1, fun ht => ht.setN, NC.setRow g3 _⟩
              · cases h
            · cases h
          · cases h
        · cases h
      · cases h
    · cases h
  · cases h

/-- Other objects than the loops' records lie as they lay. -/
def NX (c : Cfg A) (β : Adr) (W W' : World) : Prop := ∀ (k : Nat) (o : Obj), W.heap[k]? = some o → o.isCells = false → (∀ s ∈ c.ys, β s.ix ≠ some k) → W'.heap[k]? = some o

/-- The calls of yield are right. -/
def YOK (c : Cfg A) : Prop :=
  ∀ (i : Nat) (args : List (TV A)) (rd : Nat) (m : Mem A) (pd : Pds) (b : Bool) (m' : Mem A) (pd' : Pds) (vc : List Prop), c.yf i args rd m pd = some (b, m', pd', vc) → (∀ p ∈ vc, p) →
    ∀ (X : Nat → Prop) (W0 W : World) (β : Adr) (vs : List Value), MRel c X W0 β m W → Top β m → YAll X W0 β c.ys pd W → TsIs β args vs → ∀ l, β i = some l →
      ∃ rec : Loop, W.heap[l]? = some (.loop rec) ∧ vs.length = rec.params.size ∧ ∀ (r : Option Nat) (n : Nat),
        RoundIn (Fr r) n c.P l rec.fn ((rec.params.zip vs.toArray).foldl (fun t (p, v) => t.setIfInBounds p v) rec.tmps) rec.assign rec.body W (fun e W' => e = .returned (.bool b) ∧
          ∃ β', Adr.le β β' ∧ MRel c X W0 β' m' W' ∧ Top β' m' ∧ YAll X W0 β' c.ys pd' W' ∧ NX c β W W')

/-- The functions that are ranged over are run rightly. -/
def ItsOK (c : Cfg A) : Prop :=
  ∀ (g : FuncId) (ys : List (Ys A)) (yf : YF A) (args : List (TV A)) (rd : Nat) (m : Mem A) (pd : Pds) (m' : Mem A) (pd' : Pds) (vc : List Prop), c.it g ys yf args rd m pd = some (m', pd', vc) → (∀ p ∈ vc, p) →
    ∀ c1 : Cfg A, c1.P = c.P → c1.gl = c.gl → c1.old = c.old → c1.ys = ys → c1.yf = yf → YOK c1 → ∀ (X : Nat → Prop) (W0 W : World) (β : Adr) (vs : List Value), MRel c1 X W0 β m W → Top β m → YAll X W0 β ys pd W → TsIs β args vs →
      (∀ args W, (callFunc g args).run c.P W = .ok (.enter g args) W) ∧
      Calls c.P g vs.toArray W (fun e W' => (∃ v, e = .returned v) ∧ ∃ β', Adr.le β β' ∧ MRel c1 X W0 β' m' W' ∧ Top β' m' ∧ YAll X W0 β' ys pd' W')

/-- Calls of these functions leave the blocks that there are as they are. -/
def AddsOK (c : Cfg A) (ad : FuncId → Bool) : Prop :=
  ∀ (g : FuncId) (args : List (TV A)) (m : Mem A) (res : TV A) (m' : Mem A) (vc : List Prop), ad g = true → c.call g args m = some (res, some m', vc) → ∀ b, b < m.length → nth m' b = nth m b
/-- Calls of whatever kind are right. -/
structure CfgOK (c : Cfg A) : Prop where
  adds : AddsOK c c.adds
  calls : CallsOK c
  ys : YOK c
  its : ItsOK c

theorem capsTV_is {β : Adr} : ∀ {cap : List (Nat × Nat)} {vs : List Value}, capsIs β cap vs → TsIs (A := A) β (capsTV cap) vs
  | [], _, h => h
  | (_, _) :: _, _, ⟨b, r, h1, h2, e⟩ => ⟨_, r, LIs.of_single ⟨b, h1, rfl⟩, capsTV_is h2, e⟩

theorem TsIs.append {β : Adr} : ∀ {l r : List (TV A)} {x y}, TsIs β l x → TsIs β r y → TsIs β (l ++ r) (x ++ y)
  | [], _, _, _, e, h => by subst e; exact h
  | _ :: _, _, _, _, ⟨v, r, h1, h2, e⟩, h => by subst e; exact ⟨v, _, h1, TsIs.append h2 h, rfl⟩

/-- One operation, whatever it is. -/
theorem run_copy_cells {P : Program} {W : World} {dT sT ty e : TypeId} {b off n cp n2 cp2 sz : Nat} {p : Option Addr} {cur news : List Value} {ty0 : TypeId} (hu : P.underlying dT = some (.slice e)) (hs : sizeT P e = some sz) (hg : W.heap[b]? = some (.cells cur.toArray ty0 (0, 0)))
    (hnl : news.length = min n2 n * sz) (hp : p = none → n2 = 0) (hc : ∀ a, p = some a → ∀ q x, news[q]? = some x → W.cell? (a.add q) = some x) (hfit : off + news.length ≤ cur.length) (h1 : ∀ x ∈ news, x.oneCell' = true) :
    (Builtin.copy_ #[dT, sT] ty #[.slice (some ⟨b, off, none⟩) n cp, .slice p n2 cp2]).run P W = .ok (goInt (min n2 n : Nat)) (W.setRow b (cur.take off ++ news ++ cur.drop (off + news.length)).toArray) := by
  have hst := run_storeCells_at P b off ty0 news 0 cur.toArray W hg (by simpa using hfit) h1
  simp only [Nat.add_zero] at hst
  cases hq : P.info? e with
  | none => simp [sizeT, hq] at hs
  | some i =>
    have hi : i.size = sz := by simpa [sizeT, hq] using hs
    have hmin : Nat.min n2 n = min n2 n := rfl
    cases p with
    | none =>
      obtain rfl := hp rfl
      have hn0 : news = [] := List.eq_nil_of_length_eq_zero (by rw [hnl]; simp)
      subst hn0
      simp [Builtin.copy_, run_underlying hu, Builtin.lenOf, Builtin.firstCells, sizeOf, typeInfo, hq] at hst ⊢
      rw [hst]
      simp
    | some a =>
      have hl := run_loadCells_list (P := P) W a news (hc a rfl)
      rw [hnl] at hl
      simp [Builtin.copy_, run_underlying hu, Builtin.lenOf, Builtin.firstCells, sizeOf, typeInfo, hq, hi, hmin, hl, hst]

theorem copyV_run {c : Cfg A} {X : Nat → Prop} {W0 W : World} {β : Adr} {m m' : Mem A} {e t t' ty : TypeId} {sz : Nat} {xv yv v : TV A} {vc : List Prop} {u w : Value} (hm : MRel c X W0 β m W) (h : copyV c m sz xv yv = some (v, m', vc)) (hvc : ∀ p ∈ vc, p)
    (hu : c.P.underlying t = some (.slice e)) (hs : sizeT c.P e = some sz) (hx : xv.Is β u) (hy : yv.Is β w) :
    ∃ r W', (Builtin.copy_ #[t, t'] ty #[u, w]).run c.P W = .ok r W' ∧ v.Is β r ∧ MRel c X W0 β m' W' ∧ (Top β m → Top β m') ∧ NC W W' := by
  unfold copyV at h
  split at h
  · rename_i i off n cp
    split at h
    · rename_i blk hb
      obtain ⟨b, hb1, e1⟩ := LIs.single (hx : LIs β _ [u])
      simp at e1; subst e1
      obtain ⟨b', us, fz, hb2, hvs, hheap, hfz⟩ := hm.mem' hb hb1
      have : b' = b := by rw [hb1] at hb2; exact (Option.some.inj hb2).symm
      subst this
      split at h
      · rename_i hro
        obtain ⟨rfl, _⟩ := hfz hro
        split at h
        · rename_i i2 off2 n2 cp2
          split at h
          · rename_i blk2 hblk2
            split at h
            · rename_i l hl
              split at h
              · rename_i cells ho
                simp only [Option.some.injEq, Prod.mk.injEq] at h
                obtain ⟨rfl, rfl, rfl⟩ := h
                obtain ⟨b2, hb3, e2⟩ := LIs.single (hy : LIs β _ [w])
                simp at e2; subst e2
                obtain ⟨b2', us2, fz2, hb4, hvs2, hheap2, _⟩ := hm.mem' hblk2 hb3
                have : b2' = b2 := by rw [hb3] at hb4; exact (Option.some.inj hb4).symm
                subst this
                obtain ⟨h1, h2⟩ := cut_is hvs2 hl
                obtain ⟨o1, o2⟩ := over_is hvs h1 ho
                have hll : ((us2.drop off2).take (min n2 n * sz)).length = min n2 n * sz := by
                  rw [List.length_take, List.length_drop]; omega
                have hr := run_copy_cells (P := c.P) (W := W) (dT := t) (sT := t') (ty := ty) (cp := cp) (cp2 := cp2) (p := some ⟨b2', off2, none⟩) (n := n) (n2 := n2) hu hs hheap hll (fun h => by cases h) (fun a ha q x hq => by
                  obtain rfl := Option.some.inj ha
                  rw [add_none, cell_of_row W b2' (off2 + q) _ _ fz2 hheap2]
                  have hlt := (List.getElem?_eq_some_iff.1 hq).1
                  rw [List.getElem?_take, if_pos (by omega), List.getElem?_drop] at hq
                  simpa using hq) o2 (fun x hx => h1.one x hx)
                exact ⟨_, _, hr, LIs.of_single ⟨rfl, rfl⟩, hm.setRow hb1 hb hro hheap o1, fun ht => ht.setN, NC.setRow hheap _⟩
              · cases h
            · cases h
          · cases h
        · split at h
          · rename_i g j n2 vc0 l hsrc hl
            split at h
            · rename_i row hrow
              split at h
              · rename_i hsz
                obtain ⟨rfl, hsz⟩ := hsz
                split at h
                · rename_i row' p hsp
                  split at h
                  · rename_i cells ho
                    simp only [Option.some.injEq, Prod.mk.injEq] at h
                    obtain ⟨rfl, rfl, rfl⟩ := h
                    have hp : p := hvc _ (by simp)
                    obtain ⟨pa, cp2, news, rfl, s1, s2, s3, s4⟩ := srcV_run hm hsrc (fun q hq => hvc q (by simp [hq])) hy (by omega)
                    rw [Nat.mul_one] at s2
                    obtain ⟨h1, h2⟩ := cut_is hvs hl
                    have hrc := rowA_is h1 hrow
                    have hmn : min n2 n ≤ n := Nat.min_le_right _ _
                    have hmn2 : min n2 n ≤ n2 := Nat.min_le_left _ _
                    have htl : (news.take (min n2 n)).length = min n2 n := by rw [List.length_take, s2]; omega
                    have hq : ∀ (q : Nat) x, (news.take (min n2 n))[q]? = some x → news[q]? = some x ∧ q < min n2 n := by
                      intro q x hq
                      have hlt := (List.getElem?_eq_some_iff.1 hq).1
                      rw [htl] at hlt
                      rw [List.getElem?_take, if_pos hlt] at hq
                      exact ⟨hq, hlt⟩
                    have hnew := Atom.splice_ok hsp hp (by omega) (news.take (min n2 n)) htl (fun q x hx => s4 q x (hq q x hx).1)
                    rw [← hrc] at hnew
                    have hnl : ((us.drop off).take n).length = n := by rw [List.length_take, List.length_drop]; omega
                    have hnewI : LIs β [.a row'] (news.take (min n2 n) ++ ((us.drop off).take n).drop (min n2 n)) := ⟨_, [], rfl, rfl, by rw [List.append_nil, hnew]⟩
                    obtain ⟨o1, o2⟩ := over_is hvs hnewI ho
                    have hlen : (news.take (min n2 n) ++ ((us.drop off).take n).drop (min n2 n)).length = n := by rw [List.length_append, htl, List.length_drop, hnl]; omega
                    rw [hlen] at o1 o2
                    have hr := run_copy_cells (P := c.P) (W := W) (dT := t) (sT := t') (ty := ty) (cp := cp) (cp2 := cp2) (p := pa) (n := n) (n2 := n2) (sz := 1) (news := news.take (min n2 n)) (off := off) hu hs hheap (by rw [htl, Nat.mul_one]) s1 (fun a ha q x hx => s3 a ha q x (hq q x hx).1)
                      (by rw [htl]; omega) (fun x hx => by
                        obtain ⟨q, hx⟩ := List.getElem?_of_mem hx
                        have := s4 q x (hq q x hx).1
                        exact Atom.one _ x (by rw [this]; simp))
                    have e9 : us.take off ++ (news.take (min n2 n) ++ ((us.drop off).take n).drop (min n2 n)) ++ us.drop (off + n) = us.take off ++ news.take (min n2 n) ++ us.drop (off + (news.take (min n2 n)).length) := by
                      rw [htl, List.append_assoc, List.append_assoc, List.append_assoc]
                      congr 2
                      have e10 : us.drop (off + min n2 n) = (us.drop off).drop (min n2 n) := by rw [List.drop_drop]
                      have e11 : us.drop (off + n) = (us.drop off).drop n := by rw [List.drop_drop]
                      rw [e10, e11]
                      generalize us.drop off = L
                      rw [List.drop_take]
                      conv => rhs; rw [← List.take_append_drop (n - min n2 n) (L.drop (min n2 n)), List.drop_drop]
                      rw [show min n2 n + (n - min n2 n) = n by omega]
                    rw [e9] at o1
                    exact ⟨_, _, hr, LIs.of_single rfl, hm.setRow hb1 hb hro hheap o1, fun ht => ht.setN, NC.setRow hheap _⟩
                  · cases h
                · cases h
              · cases h
            · cases h
          · cases h
      · cases h
    · cases h
  · cases h

theorem growQ_is {c : Cfg A} {rd : Nat} {d : Option Tmp} {v : TV A} {e : TypeId} {sz : Nat} (h : growQ c rd d v = some (e, sz)) : v = .val false [.v (.slice none 0 0)] ∧ sizeT c.P e = some sz := by
  unfold growQ at h
  split at h
  · split at h
    · split at h
      · split at h
        · rename_i hs
          simp only [Option.some.injEq, Prod.mk.injEq] at h
          obtain ⟨rfl, rfl⟩ := h
          exact ⟨rfl, hs⟩
        · cases h
      · cases h
    · cases h
  · cases h

/-- A block isn't to be written from there on. -/
theorem MRel.mark {c : Cfg A} {X : Nat → Prop} {W0 W W' : World} {β : Adr} {m : Mem A} {i b : Nat} {blk : Blk A} {us : List Value} {fz : Nat × Nat} (h : MRel c X W0 β m W)
    (hb : β i = some b) (hi : nth m i = some (some blk)) (hro : blk.ro = false) (hv : LIs β blk.cells us) (e0 : W'.os = W.os ∧ W'.tape = W.tape ∧ W'.output = W.output) (esz : W'.heap.size = W.heap.size)
    (hat : ∀ k, W'.heap[k]? = if k = b then some (.cells us.toArray blk.ty fz) else W.heap[k]?) :
    MRel c X W0 β (setN m i (some ⟨blk.cells, blk.ty, true⟩)) W' := by
  have hpl := h.plain hi hb
  obtain ⟨b', us', fz', g1, g2, g3, g4⟩ := h.mem' hi hb
  obtain rfl : b' = b := Option.some.inj (g1.symm.trans hb)
  obtain ⟨_, gx⟩ := g4 hro
  have hb0 : ∀ a : Addr, a.block = b' → wra β m i a := fun a e => .inl ⟨blk, hi, hpl, hro, by rw [e]; exact hb⟩
  have hnew : (⟨blk.cells, blk.ty, true⟩ : Blk A).vec = none := by
    rw [← hpl]; rfl
  have entry : ∀ {j blk'}, nth (setN m i (some ⟨blk.cells, blk.ty, true⟩)) j = some (some blk') → (j = i ∧ blk' = ⟨blk.cells, blk.ty, true⟩) ∨ (i ≠ j ∧ nth m j = some (some blk')) := by
    intro j blk' hj
    rw [nth_setN] at hj
    split at hj
    · rename_i e
      split at hj
      · simp at hj; exact .inl ⟨e.symm, hj.symm⟩
      · cases hj
    · rename_i e; exact .inr ⟨e, hj⟩
  have lives : ∀ j blk', nth (setN m i (some ⟨blk.cells, blk.ty, true⟩)) j = some (some blk') → ∃ bj, nth m j = some (some bj) := by
    intro j blk' hj
    rcases entry hj with ⟨rfl, _⟩ | ⟨_, hj'⟩
    · exact ⟨blk, hi⟩
    · exact ⟨blk', hj'⟩
  have vin : ∀ {j b}, vecIn β (setN m i (some ⟨blk.cells, blk.ty, true⟩)) j b → vecIn β m j b := by
    rintro j b ⟨blk', v, n, l, cap, q1, q2, q3⟩
    rcases entry q1 with ⟨_, rfl⟩ | ⟨_, hj'⟩
    · rw [hnew] at q2; cases q2
    · exact ⟨blk', v, n, l, cap, hj', q2, q3⟩
  have win : ∀ {j} {a : Addr}, wra β (setN m i (some ⟨blk.cells, blk.ty, true⟩)) j a → wra β m j a := by
    rintro j a (⟨blk', w1, w2, w3, w4⟩ | ⟨blk', v1, n1, l1, cap1, w1, w2, w3⟩)
    · rcases entry w1 with ⟨rfl, rfl⟩ | ⟨_, hj'⟩
      · cases w3
      · exact .inl ⟨blk', hj', w2, w3, w4⟩
    · rcases entry w1 with ⟨_, rfl⟩ | ⟨_, hj'⟩
      · rw [hnew] at w2; cases w2
      · exact .inr ⟨blk', v1, n1, l1, cap1, hj', w2, w3⟩
  have other : ∀ {k}, k ≠ b' → W'.heap[k]? = W.heap[k]? := fun {k} hne => by rw [hat, if_neg hne]
  refine ⟨fun j blk' hj hnv => ?_, fun j j' bj bj' b l1 l2 => ?_, fun j b hj => by rw [esz]; exact h.dom j b hj, ⟨e0.1.trans h.ext.os, e0.2.1.trans h.ext.tape, e0.2.2.trans h.ext.output, by rw [esz]; exact h.ext.size, fun k hk hx => ?_⟩, h.glob, h.old, fun k hk => ?_, fun a v hkn => ?_, fun j blk' v n l hj hvec => ?_, fun j b hvj j2 => ?_⟩
  · rcases entry hj with ⟨rfl, rfl⟩ | ⟨hne, hj'⟩
    · exact ⟨b', us, fz, hb, hv, by rw [hat, if_pos rfl], fun hh => by cases hh⟩
    · obtain ⟨b2, us2, fz2, k1, k2, k3, k4⟩ := h.mem j blk' hj' hnv
      have : b2 ≠ b' := fun e => hne (h.inj i j blk blk' b' hi hj' hb (by rw [k1, e]))
      exact ⟨b2, us2, fz2, k1, k2, by rw [other this]; exact k3, k4⟩
  · obtain ⟨x1, hx1⟩ := lives j bj l1
    obtain ⟨x2, hx2⟩ := lives j' bj' l2
    exact h.inj j j' x1 x2 b hx1 hx2
  · have : k ≠ b' := fun e => by
      subst e
      rcases gx with gx | gx
      · omega
      · exact hx gx
    rw [other this]
    exact h.ext.block k hk hx
  · obtain ⟨k1, k2⟩ := h.nc k hk
    have : k ≠ b' := fun e => by rw [e, g3] at k1; cases k1
    exact ⟨by rw [other this]; exact k1, k2⟩
  · obtain ⟨k1, k2, k3⟩ := h.kn a v hkn
    exact ⟨cell?_same k1 (other (fun e => k3 i (hb0 a e))), k2, fun j hw => k3 j (win hw)⟩
  · rcases entry hj with ⟨_, rfl⟩ | ⟨_, hj'⟩
    · rw [hnew] at hvec; cases hvec
    · refine (h.vec j blk' v n l hj' hvec).kept (fun _ _ _ h => h) (fun b cap hb2 => other (fun e => ?_))
      subst e
      exact (h.sep j b ⟨blk', v, n, l, cap, hj', hvec, hb2⟩ i).1 blk hi hb
  · obtain ⟨s1, s2⟩ := h.sep j b (vin hvj) j2
    refine ⟨fun blk2 h2 e => ?_, fun hv2 => s2 (vin hv2)⟩
    obtain ⟨x, hx⟩ := lives j2 blk2 h2
    exact s1 x hx e

theorem exec1_sound {c : Cfg A} (hc : CfgOK c) {X : Nat → Prop} {W0 W : World} {β : Adr} {st st' : St A} {a : Act} {o : Oper} {r : Option Nat} {n : Nat}
    (hr : Rel c X W0 β st a W) (h : exec1 c st o = some st') (hvc : ∀ p ∈ st'.vc, p) :
    Yld r n c.P o a W (fun v W' => ∃ β', Adr.le β β' ∧ Rel c X W0 β' st' (a.put o.dst v) W') := by
  obtain ⟨ht, hm, htop, hd, hyy⟩ := hr
  have plain : ∀ (tv : TV A) (vc : List Prop), opV c st o.op = some (tv, vc) → st' = putT { st with vc := (decT c st.rd o.dst tv).2 ++ (vc ++ st.vc) } o.dst (decT c st.rd o.dst tv).1 →
      Yld r n c.P o a W (fun v W' => ∃ β', Adr.le β β' ∧ Rel c X W0 β' st' (a.put o.dst v) W') := by
    intro tv vc hv hst
    subst hst
    have hpv : ∀ (s : St A) d v, (putT s d v).vc = s.vc := by intro s d v; cases d <;> rfl
    have hmm : ∀ (s : St A) d v, (putT s d v).m = s.m := by intro s d v; cases d <;> rfl
    have hpp : ∀ (s : St A) d v, (putT s d v).pd = s.pd := by intro s d v; cases d <;> rfl
    refine (opV_sound hc.calls ht hm hv (fun p hp => hvc p (by rw [hpv]; exact List.mem_append_right _ (List.mem_append_left _ hp)))).mono ?_
    rintro v W' ⟨K, hK, h1, h2⟩
    have h3 := decT_is (c := c) (rd := st.rd) (d := o.dst) h1 (fun p hp => hvc p (by rw [hpv]; exact List.mem_append_left _ hp))
    have hle := Adr.le_know β K
    refine ⟨β.know K, hle, TRel.put (st := { st with vc := (decT c st.rd o.dst tv).2 ++ (vc ++ st.vc) }) (ht.mono hle) h3, ?_, ?_, by rw [put_defers]; exact hd.mono hle, by rw [hpp]; exact hyy.kept hle h2.nc⟩
    · rw [hmm]; exact hm.know h2 hK
    · rw [hmm]; exact htop
  have pm : ∀ (s : St A) d v, (putT s d v).m = s.m := by intro s d v; cases d <;> rfl
  have pp : ∀ (s : St A) d v, (putT s d v).pd = s.pd := by intro s d v; cases d <;> rfl
  have callS : ∀ (g : FuncId) (l : List (TV A)) (vs : List Value), (∀ d, o.op ≠ .defer d) → (∀ W, (execOp a.eval o).run c.P W = (callFunc g vs.toArray).run c.P W) → TsIs β l vs → callX c st o.dst g l = some st' →
      Yld r n c.P o a W (fun v W' => ∃ β', Adr.le β β' ∧ Rel c X W0 β' st' (a.put o.dst v) W') := by
    intro g l vs hdf e hargs h
    have hpv : ∀ (s : St A) d v, (putT s d v).vc = s.vc := by intro s d v; cases d <;> rfl
    unfold callX at h
    split at h
    · rename_i v vc' hcall
      obtain rfl := Option.some.inj h
      have hvc' : ∀ p ∈ vc', p := fun p hp => hvc p (by rw [hpv]; exact List.mem_append_right _ (List.mem_append_left _ hp))
      have fin : ∀ u W', (∃ K, Fresh W W' K ∧ v.Is (β.know K) u ∧ Keeps W W') → ∃ β', Adr.le β β' ∧ Rel c X W0 β' (putT { st with vc := (decT c st.rd o.dst v).2 ++ (vc' ++ st.vc) } o.dst (decT c st.rd o.dst v).1) (a.put o.dst u) W' := by
        rintro u W' ⟨K, hK, k1, k2⟩
        have h3 := decT_is (c := c) (rd := st.rd) (d := o.dst) k1 (fun p hp => hvc p (by rw [hpv]; exact List.mem_append_left _ hp))
        have hle := Adr.le_know β K
        refine ⟨β.know K, hle, TRel.put (st := { st with vc := (decT c st.rd o.dst v).2 ++ (vc' ++ st.vc) }) (ht.mono hle) h3, ?_, ?_, by rw [put_defers]; exact hd.mono hle, by rw [pp]; exact hyy.kept hle k2.nc⟩
        · rw [pm]; exact hm.know k2 hK
        · rw [pm]; exact htop
      rcases hc.calls g l st.m v none vc' hcall hvc' X W0 W β _ hm hargs with ⟨u, h1, h2⟩ | ⟨h1, h2⟩
      · exact yld_value hdf (by rw [e]; exact h1) (fin _ _ h2)
      · refine yld_enter hdf (by rw [e]; exact h1) (h2.mono ?_)
        rintro e W' ⟨u, rfl, hu⟩
        exact ⟨u, rfl, fin _ _ hu⟩
    · rename_i v m' vc' hcall
      obtain rfl := Option.some.inj h
      have hvc' : ∀ p ∈ vc', p := fun p hp => hvc p (by rw [hpv]; exact List.mem_append_right _ (List.mem_append_left _ hp))
      have fin : ∀ u W', (∃ β', Adr.le β β' ∧ v.Is β' u ∧ MRel c X W0 β' m' W' ∧ Top β' m' ∧ NC W W') →
          ∃ β', Adr.le β β' ∧ Rel c X W0 β' (putT { st with m := m', vc := (decT c st.rd o.dst v).2 ++ (vc' ++ st.vc) } o.dst (decT c st.rd o.dst v).1) (a.put o.dst u) W' := by
        rintro u W' ⟨β', k1, k2, k3, k4, k5⟩
        have h3 := decT_is (c := c) (rd := st.rd) (d := o.dst) k2 (fun p hp => hvc p (by rw [hpv]; exact List.mem_append_left _ hp))
        refine ⟨β', k1, ?_, ?_, ?_, by rw [put_defers]; exact hd.mono k1, by rw [pp]; exact hyy.kept k1 k5⟩
        · have ht' : TRel β' st.t a := ht.mono k1
          exact TRel.put (st := { st with m := m', vc := (decT c st.rd o.dst v).2 ++ (vc' ++ st.vc) }) ht' h3
        · rw [pm]; exact k3
        · rw [pm]; exact k4
      rcases (hc.calls g l st.m v (some m') vc' hcall hvc' X W0 W β _ hm hargs) htop with ⟨u, h1, h2⟩ | ⟨h1, h2⟩
      · exact yld_value hdf (by rw [e]; exact h1) (fin _ _ h2)
      · refine yld_enter hdf (by rw [e]; exact h1) (h2.mono ?_)
        rintro e W' ⟨u, rfl, hu⟩
        exact ⟨u, rfl, fin _ _ hu⟩
    · cases h
  cases hop : o.op with
  | alloc t =>
    unfold exec1 at h
    rw [hop] at h
    simp only at h
    split at h
    · rename_i cells hz
      obtain ⟨z, hz1, hz2⟩ := run_zeroT (P := c.P) (w := W) (β := β) hz
      split at h
      · rename_i e sz hq
        obtain rfl := Option.some.inj h
        obtain ⟨hcv, hs⟩ := growQ_is hq
        simp only [TV.val.injEq, true_and] at hcv
        subst hcv
        have ht1 := hm.token htop hs
        have hle1 : Adr.le β (β.grow st.m.length 0 (none, 0) (fun _ _ => False)) := Adr.le_grow ((htop st.m.length (Nat.le_refl _)).2 0)
        have htop1 : Top (β.grow st.m.length 0 (none, 0) (fun _ _ => False)) (st.m ++ [some ⟨[.mk 0 0], e, false⟩]) := fun q hq => by
          simp at hq
          refine ⟨(htop q (by omega)).1, fun w => ?_⟩
          rw [Adr.grow_old (fun e => by omega)]
          exact (htop q (by omega)).2 w
        have hlen1 : (st.m ++ [some (⟨[.mk 0 0], e, false⟩ : Blk A)]).length = st.m.length + 1 := by simp
        have hv1 : LIs (β.grow st.m.length 0 (none, 0) (fun _ _ => False)) [.gr (fun _ => (Atom.dummy : A)) st.m.length 0 0 sz] z.cells.toList := by
          obtain ⟨x, y, q1, q2, q3⟩ := hz2
          obtain rfl : y = [] := q2
          obtain ⟨q1, _⟩ := q1
          rw [q3, q1, List.append_nil]
          refine LIs.of_single ?_
          show growsIs _ _ 0 sz _ _
          rw [Adr.grow_new]
          exact ⟨rfl, rfl⟩
        have hk := (htop1 _ (Nat.le_refl _)).1
        have h1 := ht1.alloc (t := t) (m' := (st.m ++ [some ⟨[.mk 0 0], e, false⟩]) ++ [some ⟨[.gr (fun _ => Atom.dummy) st.m.length 0 0 sz], t, false⟩]) hk hv1 append_cases
        refine yld_value (v := .pointer (some ⟨W.heap.size, 0, none⟩)) (W' := W.alloc (.cells z.cells t)) (by simp [hop]) ?_ ?_
        · simp [execOp, hop, Instr.alloc, hz1, newVar, newRow]
        · have hle2 := Adr.le_trans hle1 (Adr.le_put (b := W.heap.size) hk)
          refine ⟨_, hle2, ?_, ?_, ?_, by rw [put_defers]; exact hd.mono hle2, by rw [pp]; exact hyy.kept hle2 (Keeps.alloc W _).nc⟩
          · exact TRel.put (st := { st with m := (st.m ++ [some ⟨[.mk 0 0], e, false⟩]) ++ [some ⟨[.gr (fun _ => Atom.dummy) st.m.length 0 0 sz], t, false⟩] }) (ht.mono hle2) (LIs.of_single ⟨W.heap.size, by rw [hlen1]; simp [Adr.put_at], rfl⟩)
          · rw [pm]; simpa using h1
          · rw [pm]; exact htop1.append
      obtain rfl := Option.some.inj h
      refine yld_value (v := .pointer (some ⟨W.heap.size, 0, none⟩)) (W' := W.alloc (.cells z.cells t)) (by simp [hop]) ?_ ?_
      · simp [execOp, hop, Instr.alloc, hz1, newVar, newRow]
      · have hk := (htop st.m.length (Nat.le_refl _)).1
        have h1 := hm.alloc (t := t) (m' := st.m ++ [some ⟨cells, t, false⟩]) hk hz2 append_cases
        refine ⟨β.put st.m.length W.heap.size, Adr.le_put hk, ?_, ?_, ?_, by rw [put_defers]; exact hd.mono (Adr.le_put hk), by rw [pp]; exact hyy.kept (Adr.le_put hk) (Keeps.alloc W _).nc⟩
        · have ht' : TRel (β.put st.m.length W.heap.size) st.t a := ht.mono (Adr.le_put hk)
          exact TRel.put (st := { st with m := st.m ++ [some ⟨cells, t, false⟩] }) ht' (LIs.of_single ⟨W.heap.size, by simp [Adr.put_at], rfl⟩)
        · rw [pm]; simpa using h1
        · rw [pm]; exact htop.append
    · cases h
  | assign x =>
    unfold exec1 at h
    rw [hop] at h
    simp only at h
    split at h
    · rename_i v hx
      split at h
      · rename_i e sz hq
        obtain rfl := Option.some.inj h
        obtain ⟨hcv, hs⟩ := growQ_is hq
        subst hcv
        have ht1 := hm.token htop hs
        have hle1 : Adr.le β (β.grow st.m.length 0 (none, 0) (fun _ _ => False)) := Adr.le_grow ((htop st.m.length (Nat.le_refl _)).2 0)
        have htop1 : Top (β.grow st.m.length 0 (none, 0) (fun _ _ => False)) (st.m ++ [some ⟨[.mk 0 0], e, false⟩]) := fun q hq => by
          simp at hq
          refine ⟨(htop q (by omega)).1, fun w => ?_⟩
          rw [Adr.grow_old (fun e => by omega)]
          exact (htop q (by omega)).2 w
        obtain ⟨ev, _⟩ := LIs.single (evO_is ht hm hx : LIs β _ [a.eval x])
        simp at ev
        refine yld_value (v := a.eval x) (W' := W) (by simp [hop]) (by simp [execOp, hop]) ⟨_, hle1, ?_, ?_, ?_, by rw [put_defers]; exact hd.mono hle1, by rw [pp]; exact hyy.kept hle1 (NC.refl W)⟩
        · refine TRel.put (st := { st with m := st.m ++ [some ⟨[.mk 0 0], e, false⟩] }) (ht.mono hle1) (LIs.of_single ?_)
          show growsIs _ _ 0 sz _ _
          rw [Adr.grow_new, ev]
          exact ⟨rfl, rfl⟩
        · rw [pm]; exact ht1
        · rw [pm]; exact htop1
      · obtain rfl := Option.some.inj h
        exact plain v [] (by rw [hop]; simp only [opV, hx]) rfl
    · cases h
  | box t x =>
    unfold exec1 at h
    rw [hop] at h
    simp only at h
    split at h
    · rename_i xv hx
      split at h
      · rename_i cells hcl
        obtain rfl := Option.some.inj h
        have hz2 := cellsT_is (evO_is ht hm hx) hcl
        refine yld_value (v := .pointer (some ⟨W.heap.size, 0, none⟩)) (W' := W.alloc (.cells (a.eval x).cells t)) (by simp [hop]) ?_ ?_
        · simp [execOp, hop, Instr.box, newVar, newRow]
        · have hk := (htop st.m.length (Nat.le_refl _)).1
          have h1 := hm.alloc (t := t) (m' := st.m ++ [some ⟨cells, t, false⟩]) hk hz2 append_cases
          refine ⟨β.put st.m.length W.heap.size, Adr.le_put hk, ?_, ?_, ?_, by rw [put_defers]; exact hd.mono (Adr.le_put hk), by rw [pp]; exact hyy.kept (Adr.le_put hk) (Keeps.alloc W _).nc⟩
          · have ht' : TRel (β.put st.m.length W.heap.size) st.t a := ht.mono (Adr.le_put hk)
            exact TRel.put (st := { st with m := st.m ++ [some ⟨cells, t, false⟩] }) ht' (LIs.of_single ⟨W.heap.size, by simp [Adr.put_at], rfl⟩)
          · rw [pm]; simpa using h1
          · rw [pm]; exact htop.append
      · cases h
    · cases h
  | buildSlice t len parts =>
    unfold exec1 at h
    rw [hop] at h
    simp only at h
    split at h
    · rename_i e hu
      split at h
      · rename_i sz z hs hz
        split at h
        · rename_i hle
          split at h
          · rename_i hzl
            split at h
            · rename_i cells hf
              obtain rfl := Option.some.inj h
              obtain ⟨zv, hz1, hz2⟩ := run_zeroT (P := c.P) (w := W) (β := β) hz
              obtain ⟨us, hu1, hu2⟩ := fillV_run ht hm hf (hz2.replicate len)
              have hk := (htop st.m.length (Nat.le_refl _)).1
              refine yld_value (v := .slice (some ⟨W.heap.size, 0, none⟩) len len) (W' := W.alloc (.cells us.toArray e)) (by simp [hop]) ?_ ?_
              · have hzv : zv.cells.toList.length = sz + 1 := by
                  have hone : lsize z = z.length := by
                    unfold zeroT at hz
                    split at hz
                    · split at hz
                      · split at hz
                        · rename_i v _ _
                          simp at hz; subst hz
                          generalize v.cells.toList = l
                          induction l with
                          | nil => rfl
                          | cons x l ih => simp [lsize, SV.size, ih]; omega
                        · cases hz
                      · cases hz
                    · cases hz
                  rw [hz2.len, hone, hzl]
                have e3 : (parts.map fun x => (x.1, a.eval x.2)).toList = parts.toList.map fun x => (x.1, a.eval x.2) := by simp
                have e4 := flat_cells hzv len
                have e5 : (Array.range (len * (sz + 1))).map (fun i => zv.cells[i % zv.cells.size]!) = ((List.replicate len zv.cells.toList).flatten).toArray := by
                  apply Array.toList_inj.1
                  rw [← e4]
                have hno : ¬ (len * (sz + 1) > 2 ^ 24) := by omega
                simp only [execOp, hop, Instr.buildSlice, Sem.run_bind, run_underlying hu, Result.andThen_ok, run_sizeT hs, Sem.run_ite, if_neg hno]
                by_cases h0 : len * (sz + 1) = 0
                · simp only [h0, if_true, Sem.run_pure, Result.andThen_ok]
                  have hl0 : len = 0 := by
                    rcases Nat.mul_eq_zero.1 h0 with h0 | h0
                    · exact h0
                    · omega
                  subst hl0
                  simp only [List.replicate_zero, List.flatten_nil] at hu1
                  rw [e3]
                  have e6 : ((Array.range 0).map (fun i => (#[] : Array Value)[i % (#[] : Array Value).size]!)) = #[] := by simp
                  rw [e6, hu1]
                  simp [newRow]
                · simp only [h0, if_false, hz1, Result.andThen_ok, Sem.run_pure]
                  rw [e5, e3, hu1]
                  simp [newRow]
              · have h1 := hm.alloc (t := e) (m' := st.m ++ [some ⟨cells, e, false⟩]) hk hu2 append_cases
                refine ⟨β.put st.m.length W.heap.size, Adr.le_put hk, ?_, ?_, ?_, by rw [put_defers]; exact hd.mono (Adr.le_put hk), by rw [pp]; exact hyy.kept (Adr.le_put hk) (Keeps.alloc W _).nc⟩
                · have ht' : TRel (β.put st.m.length W.heap.size) st.t a := ht.mono (Adr.le_put hk)
                  exact TRel.put (st := { st with m := st.m ++ [some ⟨cells, e, false⟩] }) ht' (LIs.of_single ⟨W.heap.size, by simp [Adr.put_at], rfl⟩)
                · rw [pm]; exact h1
                · rw [pm]; exact htop.append
            · cases h
          · cases h
        · cases h
      · cases h
    · cases h
  | makeSlice t x y =>
    unfold exec1 at h
    rw [hop] at h
    simp only at h
    split at h
    · rename_i e kx n ky k hu hx hy
      split at h
      · rename_i i sz z hi hs hz
        split at h
        · rename_i hb
          split at h
          · rename_i hzl
            obtain rfl := Option.some.inj h
            obtain ⟨rfl, hle, hby⟩ := hb
            obtain ⟨zv, hz1, hz2⟩ := run_zeroT (P := c.P) (w := W) (β := β) hz
            have hk := (htop st.m.length (Nat.le_refl _)).1
            have ex : a.eval x = .int kx n := by
              have h1 := (LIs.single (evO_is ht hm hx : LIs β _ [a.eval x])).1
              simpa using h1
            have ey : a.eval y = .int ky n := by
              have h1 := (LIs.single (evO_is ht hm hy : LIs β _ [a.eval y])).1
              simpa using h1
            have hzv : zv.cells.toList.length = sz + 1 := by
              have hone : lsize z = z.length := by
                unfold zeroT at hz
                split at hz
                · split at hz
                  · split at hz
                    · rename_i v _ _
                      simp at hz; subst hz
                      generalize v.cells.toList = l
                      induction l with
                      | nil => rfl
                      | cons x l ih => simp [lsize, SV.size, ih]; omega
                    · cases hz
                  · cases hz
                · cases hz
              rw [hz2.len, hone, hzl]
            have e4 := flat_cells hzv n
            have e5 : (Array.range (n * (sz + 1))).map (fun i => zv.cells[i % zv.cells.size]!) = ((List.replicate n zv.cells.toList).flatten).toArray := by
              apply Array.toList_inj.1
              rw [← e4]
            have hn1 : n ≤ 4096 := Nat.le_trans (Nat.le_mul_of_pos_right n (by omega)) hle
            have hwr : IntKind.i64.wrap (n : Int) = n := by
              simp only [IntKind.wrap, IntKind.bits, IntKind.signed]
              have e : (2 : Int) ^ 64 = 18446744073709551616 := by decide
              have e' : (2 : Int) ^ (64 - 1) = 9223372036854775808 := by decide
              simp only [e, e', Bool.true_and, decide_eq_true_eq]
              split <;> omega
            refine yld_value (v := .slice (some ⟨W.heap.size, 0, none⟩) n n) (W' := W.alloc (.cells ((List.replicate n zv.cells.toList).flatten).toArray e)) (by simp [hop]) ?_ ?_
            · have hty : (typeInfo e).run c.P W = .ok i W := by simp [typeInfo, hi]
              have hbig : ¬ ((i.bytes : Int) * (n : Int) > 2 ^ 48) := by
                have this : ((i.bytes * n : Nat) : Int) ≤ 65536 := Int.ofNat_le.2 hby
                have e48 : (2 : Int) ^ 48 = 281474976710656 := by decide
                have e49 : (i.bytes : Int) * (n : Int) = ((i.bytes * n : Nat) : Int) := (Int.natCast_mul _ _).symm
                rw [e48, e49]
                omega
              have hneg : ¬ ((n : Int) < 0) := by omega
              have ax : ∀ kx : IntKind, (asInt (.int kx (n : Int))).run c.P W = .ok (n : Int) W := fun kx => by simp [asInt, asIntOf]
              have hgt : ¬ ((n : Int) > (n : Int)) := by omega
              rcases Nat.eq_zero_or_pos n with hz0 | hn0
              · subst hz0
                have hgt0 : ¬ ((0 : Int) > 0) := by omega
                simp only [execOp, hop, Instr.makeSlice, Sem.run_bind, run_underlying hu, Result.andThen_ok, ex, ey, ax, hgt, Sem.run_pure, hty, hwr, hneg, hbig, decide_false, Bool.or_self, Bool.false_or, Int.lt_irrefl, if_false, Bool.false_eq_true, run_askRoom, run_sizeT hs, Int.toNat_natCast, Nat.zero_mul, if_true]
                have e0 : ∀ f : Nat → Value, Array.map f (Array.range 0) = #[] := fun f => by apply Array.ext'; simp [Array.toList_range]
                simp [newRow, e0]
              · have hn2 : ¬ n * (sz + 1) = 0 := by
                  intro h0
                  rcases Nat.mul_eq_zero.1 h0 with h0 | h0 <;> omega
                simp only [execOp, hop, Instr.makeSlice, Sem.run_bind, run_underlying hu, Result.andThen_ok, ex, ey, ax, hgt, Sem.run_pure, hty, hwr, hneg, hbig, decide_false, Bool.or_self, Bool.false_or, Int.lt_irrefl, if_false, Bool.false_eq_true, run_askRoom, run_sizeT hs, Int.toNat_natCast, hn2, hz1, e5]
                simp [newRow]
            · have h1 := hm.alloc (t := e) (m' := st.m ++ [some ⟨(List.replicate n z).flatten, e, false⟩]) hk (hz2.replicate n) append_cases
              refine ⟨β.put st.m.length W.heap.size, Adr.le_put hk, ?_, ?_, ?_, by rw [put_defers]; exact hd.mono (Adr.le_put hk), by rw [pp]; exact hyy.kept (Adr.le_put hk) (Keeps.alloc W _).nc⟩
              · have ht' : TRel (β.put st.m.length W.heap.size) st.t a := ht.mono (Adr.le_put hk)
                exact TRel.put (st := { st with m := st.m ++ [some ⟨(List.replicate n z).flatten, e, false⟩] }) ht' (LIs.of_single ⟨W.heap.size, by simp [Adr.put_at], rfl⟩)
              · rw [pm]; exact h1
              · rw [pm]; exact htop.append
          · cases h
        · cases h
      · cases h
    · rename_i e kx u ky v hu hx hy
      split at h
      · rename_i a0 row bytes hmk
        obtain rfl := Option.some.inj h
        have hmo : Makes bytes u v := hvc _ (by rw [putT_vc']; exact List.mem_cons_self)
        have ex : a.eval x = .int kx u := by
          have h1 : [a.eval x] = [Value.int kx u] := LIs.single (evO_is ht hm hx : LIs β _ [a.eval x])
          simpa using h1
        have ey : a.eval y = .int ky v := by
          have h1 : [a.eval y] = [Value.int ky v] := LIs.single (evO_is ht hm hy : LIs β _ [a.eval y])
          simpa using h1
        have hk := (htop st.m.length (Nat.le_refl _)).1
        obtain ⟨us, g1, g2, g3, g4⟩ := makeW_run (W := W) hu hmk hmo kx ky
        refine yld_value (v := .slice (some ⟨W.heap.size, 0, none⟩) u.toNat u.toNat) (W' := W.alloc (.cells us.toArray e)) (by simp [hop]) ?_ ?_
        · simp only [execOp, hop, ex, ey, Sem.run_bind, g1]
          rfl
        · have h1 := hm.alloc (t := e) (m' := st.m ++ [some ⟨[.a row], e, false⟩]) hk (LIs.atom g2) append_cases
          refine ⟨β.put st.m.length W.heap.size, Adr.le_put hk, ?_, ?_, ?_, by rw [put_defers]; exact hd.mono (Adr.le_put hk), by rw [pp]; exact hyy.kept (Adr.le_put hk) (Keeps.alloc W _).nc⟩
          · have ht' : TRel (β.put st.m.length W.heap.size) st.t a := ht.mono (Adr.le_put hk)
            exact TRel.put (st := { st with m := st.m ++ [some ⟨[.a row], e, false⟩], vc := Makes bytes u v :: st.vc }) ht' (LIs.of_single ⟨W.heap.size, by simp [Adr.put_at], rfl⟩)
          · rw [pm]; exact h1
          · rw [pm]; exact htop.append
      · cases h
    · cases h
  | convert src dst x =>
    unfold exec1 at h
    rw [hop] at h
    simp only at h
    split at h
    · rename_i v vc hv
      exact plain v vc (by rw [hop]; exact hv) (Option.some.inj h).symm
    · split at h
      · rename_i m' v hmk
        obtain rfl := Option.some.inj h
        unfold markV at hmk
        split at hmk
        · rename_i i off len cap hx
          split at hmk
          · rename_i hsd
            split at hmk
            · rename_i e hu
              split at hmk
              · rename_i blk hue hi
                split at hmk
                · rename_i hro
                  simp at hmk
                  obtain ⟨rfl, rfl⟩ := hmk
                  obtain ⟨b, hb, ex⟩ := LIs.single (evO_is ht hm hx : LIs β _ [a.eval x])
                  simp at ex
                  obtain ⟨b', us, fz, g1, g2, g3, g4⟩ := hm.mem' hi hb
                  obtain rfl : b' = b := Option.some.inj (g1.symm.trans hb)
                  obtain ⟨rfl, _⟩ := g4 hro
                  subst hsd
                  have hshape : W.shape? b' = some (blk.ty, us.toArray.size) := by unfold World.shape?; rw [g3]
                  have hat : ∀ k, (W.freeze ⟨b', us.toArray.size, none⟩ 1).heap[k]? = if k = b' then some (.cells us.toArray blk.ty (us.toArray.size, us.toArray.size + 1)) else W.heap[k]? := by
                    intro k
                    unfold World.freeze
                    rw [if_neg (by decide)]
                    simp only [Array.getElem?_modify]
                    by_cases e : b' = k
                    · subst e; simp [g3]
                    · rw [if_neg e, if_neg (fun h => e h.symm)]
                  have esz : (W.freeze ⟨b', us.toArray.size, none⟩ 1).heap.size = W.heap.size := by
                    unfold World.freeze
                    rw [if_neg (by decide)]
                    simp
                  have e0 : (W.freeze ⟨b', us.toArray.size, none⟩ 1).os = W.os ∧ (W.freeze ⟨b', us.toArray.size, none⟩ 1).tape = W.tape ∧ (W.freeze ⟨b', us.toArray.size, none⟩ 1).output = W.output := by
                    unfold World.freeze
                    rw [if_neg (by decide)]
                    exact ⟨rfl, rfl, rfl⟩
                  have hnc : NC W (W.freeze ⟨b', us.toArray.size, none⟩ 1) := fun k o hk ho => by
                    rw [hat]
                    split
                    · rename_i e; rw [e, g3] at hk; obtain rfl := Option.some.inj hk; cases ho
                    · exact hk
                  refine yld_value (v := .slice (some ⟨b', off, none⟩) len cap) (W' := W.freeze ⟨b', us.toArray.size, none⟩ 1) (by simp [hop]) ?_ ?_
                  · simp [execOp, hop, convert, run_underlying hu, run_underlying hue, ex, markStringish, hshape]
                  · refine ⟨β, Adr.le_refl β, ?_, ?_, ?_, by rw [put_defers]; exact hd, by rw [pp]; exact hyy.kept (Adr.le_refl β) hnc⟩
                    · exact TRel.put (st := { st with m := setN st.m i (some ⟨blk.cells, blk.ty, true⟩) }) ht (LIs.of_single ⟨b', hb, rfl⟩)
                    · rw [pm]; exact hm.mark hb hi hro g2 e0 esz hat
                    · rw [pm]; exact htop.setN
                · cases hmk
              · cases hmk
            · cases hmk
          · cases hmk
        · cases hmk
      · cases h
  | store t x y =>
    unfold exec1 at h
    rw [hop] at h
    simp only at h
    split at h
    · rename_i xv yv hx hy
      split at h
      · rename_i m' vc' hs
        obtain rfl := Option.some.inj h
        obtain ⟨W', h1, h2, h3, h4⟩ := storeV_run hm hs (fun p hp => hvc p (by rw [putT_vc']; exact List.mem_append_left _ hp)) (evO_is ht hm hx) (evO_is ht hm hy)
        refine yld_skip (W' := W') (by simp [hop]) ?_ ?_
        · simp [execOp, hop, h1]
        · refine ⟨β, Adr.le_refl β, ?_, ?_, ?_, by rw [put_defers]; exact hd, by rw [pp]; exact hyy.kept (Adr.le_refl β) h4⟩
          · exact TRel.put (st := { st with m := m', vc := vc' ++ st.vc }) ht (undefT_is β)
          · rw [pm]; exact h2
          · rw [pm]; exact h3 htop
      · cases h
    · cases h
  | call cl =>
    obtain ⟨callee, args, ats⟩ := cl
    cases callee with
    | value f =>
      cases f with
      | func g =>
        unfold exec1 at h
        rw [hop] at h
        simp only at h
        split at h
        · rename_i l hl
          have hargs := evL_is ht hm hl
          have e : ∀ W, (execOp a.eval o).run c.P W = (callFunc g (args.toList.map a.eval).toArray).run c.P W := by
            intro W
            have e : args.map a.eval = (args.toList.map a.eval).toArray := Array.toList_inj.1 (by simp)
            rw [← e]
            simp [execOp, hop, resolve, Deferred.ofValue, Act.eval, invoke]
          exact callS g l _ (by simp [hop]) e hargs h
        · cases h
      | tmp x =>
        unfold exec1 at h
        rw [hop] at h
        simp only at h
        split at h
        · rename_i i l hx hl
          have hargs := evL_is ht hm hl
          obtain ⟨lb, hb, ev⟩ := LIs.single (evO_is ht hm (x := .tmp x) hx : LIs β _ [a.eval (.tmp x)])
          simp at ev
          split at h
          · rename_i b m' pd' vc' hyf
            obtain rfl := Option.some.inj h
            have hpv : ∀ (s : St A) d v, (putT s d v).vc = s.vc := by intro s d v; cases d <;> rfl
            obtain ⟨rec, h1, h2, h3⟩ := hc.ys i l st.rd st.m st.pd b m' pd' vc' hyf (fun p hp => hvc p (by rw [hpv]; exact List.mem_append_left _ hp)) X W0 W β _ hm htop hyy hargs lb hb
            have e : args.map a.eval = (args.toList.map a.eval).toArray := Array.toList_inj.1 (by simp)
            intro next Q hn
            refine ⟨fun _ _ => trivial, ?_⟩
            rw [Oper.semAt_eq _ _ _ (by simp [hop])]
            have hrun : (execOp a.eval o).run c.P W = .ok (.round lb rec.fn ((rec.params.zip (args.toList.map a.eval).toArray).foldl (fun t (p, v) => t.setIfInBounds p v) rec.tmps) rec.assign rec.body) W := by
              rw [← run_yield (P := c.P) h1 (by simpa using h2), ← e]
              simp [execOp, hop, resolve, Deferred.ofValue, ev, invoke]
            rw [hrun, Oper.uponIn_round]
            refine ⟨fun hx => by simp [Fr, Fence.wide] at hx, (h3 r (n - 1)).mono ?_⟩
            rintro e' W' ⟨rfl, β', k1, k2, k3, k4, _⟩
            refine hn _ W' ⟨β', k1, ?_, ?_, ?_, by rw [put_defers]; exact hd.mono k1, ?_⟩
            · exact TRel.put (st := { st with m := m', pd := pd', vc := vc' ++ st.vc }) (ht.mono k1) (LIs.of_single ⟨rfl, rfl⟩)
            · rw [pm]; exact k2
            · rw [pm]; exact k3
            · rw [pp]; exact k4
          · cases h
        · rename_i g cap l hx hl
          have hargs := evL_is ht hm hl
          obtain ⟨cs, hcs, ev⟩ := LIs.single (evO_is ht hm (x := .tmp x) hx : LIs β _ [a.eval (.tmp x)])
          simp at ev
          have e : ∀ W, (execOp a.eval o).run c.P W = (callFunc g (args.toList.map a.eval ++ cs).toArray).run c.P W := by
            intro W
            have e : args.map a.eval ++ cs.toArray = (args.toList.map a.eval ++ cs).toArray := Array.toList_inj.1 (by simp)
            rw [← e]
            simp [execOp, hop, resolve, Deferred.ofValue, ev, invoke]
          exact callS g _ _ (by simp [hop]) e (hargs.append (capsTV_is hcs)) h
        · cases h
      | _ =>
        unfold exec1 at h
        rw [hop] at h
        simp only [opV] at h
        cases h
    | builtin b =>
      have others : exec1 c st o = (match opV c st (.call { callee := .builtin b, args := args, argTypes := ats }) with | some (v, vc) => some (putT { st with vc := (decT c st.rd o.dst v).2 ++ (vc ++ st.vc) } o.dst (decT c st.rd o.dst v).1) | none => none) →
          Yld r n c.P o a W (fun v W' => ∃ β', Adr.le β β' ∧ Rel c X W0 β' st' (a.put o.dst v) W') := by
        intro e
        rw [e] at h
        split at h
        · rename_i v vc hv
          obtain rfl := Option.some.inj h
          exact plain v vc (by rw [hop]; exact hv) rfl
        · cases h
      have earg : args.map a.eval = (args.toList.map a.eval).toArray := Array.toList_inj.1 (by simp)
      have hpv : ∀ (s : St A) d v, (putT s d v).vc = s.vc := by intro s d v; cases d <;> rfl
      cases b with
      | append =>
        unfold exec1 at h
        rw [hop] at h
        simp only at h
        split at h
        · rename_i xv yv t t' hl hat
          · split at h
            · rename_i e hu
              split at h
              · rename_i inf sz z hinf hs hz
                split at h
                · rename_i hzl
                  split at h
                  · rename_i v m' vc hap
                    obtain rfl := Option.some.inj h
                    obtain ⟨ux, r1, hx, ⟨uy, r2, hy, hr2, e2⟩, e1⟩ := evL_is ht hm hl
                    obtain rfl : r2 = [] := hr2
                    subst e2
                    have hsz : inf.size = sz + 1 := by unfold sizeT at hs; rw [hinf] at hs; exact Option.some.inj hs
                    obtain ⟨zv, hz1, hz2⟩ := run_zeroT (P := c.P) (w := W) (β := β) hz
                    have hzero : inf.zero = some zv := by
                      unfold zeroT at hz
                      rw [hinf] at hz
                      simp only at hz
                      split at hz
                      · rename_i v0 hv0
                        simp [zeroValue, typeInfo, hinf, hv0] at hz1
                        rw [hv0, hz1]
                      · cases hz
                    have hzv : zv.cells.size = sz + 1 := by
                      have hone : lsize z = z.length := by
                        unfold zeroT at hz
                        split at hz
                        · split at hz
                          · split at hz
                            · rename_i v _ _
                              simp at hz; subst hz
                              generalize v.cells.toList = l
                              induction l with
                              | nil => rfl
                              | cons x l ih => simp [lsize, SV.size, ih]; omega
                            · cases hz
                          · cases hz
                        · cases hz
                      have := hz2.len
                      rw [hone, hzl] at this
                      simpa using this
                    obtain ⟨rv, W', β', k1, k2, k3, k4, k5, k6⟩ := appendV_run (t := t) (t' := t') (ty := o.type) hm htop hap (fun p hp => hvc p (by rw [hpv]; exact List.mem_append_left _ hp)) hu hinf hsz (by omega) hzero hzv hz2 hx hy
                    have hats : ats = #[t, t'] := by apply Array.toList_inj.1; simpa using hat
                    have hargs : args.map a.eval = #[ux, uy] := by apply Array.toList_inj.1; simpa using e1
                    refine yld_value (v := rv) (W' := W') (by simp [hop]) ?_ ⟨β', k2, ?_, ?_, ?_, by rw [put_defers]; exact hd.mono k2, by rw [pp]; exact hyy.kept k2 k6⟩
                    · subst hats
                      simp [execOp, hop, resolve, invoke, builtin, hargs, k1]
                    · have ht' : TRel β' st.t a := ht.mono k2
                      exact TRel.put (st := { st with m := m', vc := vc ++ st.vc }) ht' k3
                    · rw [pm]; exact k4
                    · rw [pm]; exact k5
                  · cases h
                · cases h
              · cases h
            · cases h
        · cases h
      | copy =>
        unfold exec1 at h
        rw [hop] at h
        simp only at h
        split at h
        · rename_i xv yv t ts hl hat
          split at h
          · rename_i e hu
            split at h
            · rename_i sz hs
              split at h
              · rename_i v m' vc hcp
                obtain rfl := Option.some.inj h
                obtain ⟨ux, r1, hx, ⟨uy, r2, hy, hr2, e2⟩, e1⟩ := evL_is ht hm hl
                obtain rfl : r2 = [] := hr2
                subst e2
                have hargs : args.map a.eval = #[ux, uy] := by apply Array.toList_inj.1; simpa using e1
                obtain ⟨rv, W', k1, k3, k4, k5, k6⟩ := copyV_run (t := t) (t' := t) (ty := o.type) hm hcp (fun p hp => hvc p (by rw [hpv]; exact List.mem_append_left _ hp)) hu hs hx hy
                have hrun : (Builtin.copy_ ats o.type #[ux, uy]).run c.P W = (Builtin.copy_ #[t, t] o.type #[ux, uy]).run c.P W := by
                  have h0 : ats[0]? = some t := by
                    have : ats.toList[0]? = some t := by rw [hat]; rfl
                    simpa using this
                  simp [Builtin.copy_, h0]
                refine yld_value (v := rv) (W' := W') (by simp [hop]) ?_ ⟨β, Adr.le_refl β, ?_, ?_, ?_, by rw [put_defers]; exact hd, by rw [pp]; exact hyy.kept (Adr.le_refl β) k6⟩
                · simp [execOp, hop, resolve, invoke, builtin, hargs, hrun, k1]
                · exact TRel.put (st := { st with m := m', vc := vc ++ st.vc }) ht k3
                · rw [pm]; exact k4
                · rw [pm]; exact k5 htop
              · cases h
            · cases h
          · cases h
        · cases h
      | _ =>
        refine others ?_
        unfold exec1
        rw [hop]
        all_goals rfl
    | invoke rr mm =>
      unfold exec1 at h
      rw [hop] at h
      simp only [opV] at h
      cases h
  | _ =>
    unfold exec1 at h
    rw [hop] at h
    simp only at h
    split at h
    · rename_i v vc hv
      obtain rfl := Option.some.inj h
      exact plain v vc (by rw [hop]; exact hv) rfl
    · cases h

end
end Go.Sh

/- Rows of operations in their order, and regions that draw their order. -/
namespace Go.Sh
open Go.RowKit

section
variable {A : Type} [Atom A]

theorem wants_is {β : Adr} {st : St A} {a : Act} {ops : Array Oper} {o : Oper} {b : Bool} (ht : TRel β st.t a)
    (h : wants ops.toList st o = some b) : Region.wanted o (yielded ops a.tmps) = b := by
  unfold wants at h
  unfold Region.wanted
  split at h
  · rename_i hg
    simp at h
    subst h
    simp [hg]
  · rename_i j want hg
    simp only [hg]
    split at h
    · rename_i oj hj
      split at h
      · rename_i d hd
        rw [nth_eq] at hj
        have hj' : ops[j]? = some oj := by simpa using hj
        have key : ∀ (tv : TV A), nth st.t d = some tv → ∃ v, a.tmps[d]? = some v ∧ tv.Is β v := by
          intro tv e
          obtain ⟨v, hv, hi⟩ := ht.tmps.nth e
          exact ⟨v, by simpa using hv, hi⟩
        split at h
        · rename_i he
          obtain ⟨v, hv, hi⟩ := key _ he
          obtain ⟨vs, h1, rfl⟩ := hi
          simp at h
          subst h
          simp [yielded, hj', hd, hv]
        · rename_i tv hne he
          obtain ⟨v, hv, hi⟩ := key _ he
          split at h
          · rename_i b' hb
            simp at h
            subst h
            have := boolOf_is hi hb
            subst this
            simp [yielded, hj', hd, hv]
          · cases h
        · cases h
      · cases h
    · cases h

omit [Atom A] in
theorem putT_vc (s : St A) (d : Option Tmp) (v : TV A) : (putT s d v).vc = s.vc := by cases d <;> rfl
omit [Atom A] in
theorem putT_m (s : St A) (d : Option Tmp) (v : TV A) : (putT s d v).m = s.m := by cases d <;> rfl
omit [Atom A] in
theorem putT_rd (s : St A) (d : Option Tmp) (v : TV A) : (putT s d v).rd = s.rd := by cases d <;> rfl
omit [Atom A] in
theorem putT_pd (s : St A) (d : Option Tmp) (v : TV A) : (putT s d v).pd = s.pd := by cases d <;> rfl

theorem execOps_vc {c : Cfg A} {ops : List Oper} : ∀ {l : List Oper} {st st' : St A}, execOps c ops l st = some st' → ∀ p ∈ st.vc, p ∈ st'.vc
  | [], st, st', h => by simp [execOps] at h; subst h; exact fun _ h => h
  | o :: rest, st, st', h => by
    simp only [execOps] at h
    split at h
    · split at h
      · rename_i st1 h1
        intro p hp
        exact execOps_vc h p (exec1_vc h1 p hp)
      · cases h
    · intro p hp
      exact execOps_vc h p (by rw [putT_vc]; exact hp)
    · cases h

theorem execOps_sound {c : Cfg A} (hc : CfgOK c) {X : Nat → Prop} {W0 : World} {ops : Array Oper} {r : Option Nat} {n : Nat} {Q : Exit → Act → World → Prop} :
    ∀ {l : List Oper} {st st' : St A} {β : Adr} {a : Act} {W : World}, execOps c ops.toList l st = some st' → (∀ p ∈ st'.vc, p) → Rel c X W0 β st a W →
      (∀ β' a' W', Adr.le β β' → Rel c X W0 β' st' a' W' → Q .normal a' W') → wpListIn (Fr r) n c.P ops Q l a W
  | [], st, st', β, a, W, h, _, hr, hQ => by
    simp [execOps] at h; subst h
    exact hQ β a W (Adr.le_refl β) hr
  | o :: rest, st, st', β, a, W, h, hvc, hr, hQ => by
    simp only [execOps] at h
    split at h
    · rename_i hw
      split at h
      · rename_i st1 h1
        have hv1 : ∀ p ∈ st1.vc, p := fun p hp => hvc p (execOps_vc h p hp)
        have hwant := wants_is (ops := ops) hr.t hw
        refine wpListIn_step fun K hK => ?_
        rw [if_pos hwant]
        refine exec1_sound (r := r) (n := n) hc hr h1 hv1 K Q ?_
        rintro v W' ⟨β', hle, hr'⟩
        exact hK _ _ (execOps_sound hc h hvc hr' (fun β'' a'' W'' hle' hr'' => hQ β'' a'' W'' (Adr.le_trans hle hle') hr''))
      · cases h
    · rename_i hw
      have hwant := wants_is (ops := ops) hr.t hw
      refine wpListIn_step fun K hK => ?_
      rw [if_neg (by rw [hwant]; simp)]
      refine ⟨fun _ _ => trivial, hK _ _ (execOps_sound hc h hvc (β := β) ⟨?_, ?_, ?_, by rw [put_defers]; exact hr.d, by rw [putT_pd]; exact hr.y⟩ hQ)⟩
      · exact TRel.put hr.t (undefT_is β)
      · rw [putT_m]; exact hr.m
      · rw [putT_m]; exact hr.top
    · cases h

/-! ### A region that draws its order: a head whose operations only read (or lay new blocks), in whatever order; behind it a tail, in its order. -/

/-- May an operation stand in a head? -/
def headOp : Op → Bool
  | .alloc _ | .move _ | .nilCheck _ | .sliceToArrayPointer .. | .pick .. | .fieldAddr .. | .field .. | .indexAddr .. | .index .. | .load .. | .extract .. | .binOp .. | .unOp .. | .convert .. | .build .. | .slice .. | .makeFunc .. | .buildSlice .. | .makeSlice .. => true
  | .call { callee := .value (.func _), args := _, argTypes := _ } => true
  | .call { callee := .builtin .len, args := _, argTypes := _ } => true
  | .call { callee := .builtin .append, args := _, argTypes := _ } => true
  | .call { callee := .builtin .max, args := _, argTypes := _ } => true
  | .call { callee := .builtin .min, args := _, argTypes := _ } => true
  | _ => false

def headLen : List Oper → Nat
  | [] => 0
  | o :: l => if headOp o.op then headLen l + 1 else 0

def waits (o : Oper) (j : Nat) : Bool := o.after.toList.any fun e => Region.binds .any e && e.on == j

/-- The slots that an operation looks at. -/
def looks (ops : List Oper) (o : Oper) : List Nat :=
  o.op.operands.toList.filterMap (fun | .tmp t => some t | _ => none) ++
  (match o.guard with | some (j, _) => (match nth ops j with | some oj => oj.dst.toList | none => []) | none => [])

/-- What operation i of the head looks at comes from ahead of the region, or of an operation that it waits for. (ds: the slots that the head writes, with the operations' numbers.) -/
def readsOK (ops : List Oper) (ds : List (Nat × Nat)) (i : Nat) (o : Oper) : Bool :=
  (looks ops o).all fun x => ds.all fun (d, j) => d != x || (decide (j < i) && waits o j)

def dsts : List Oper → Nat → List (Nat × Nat)
  | [], _ => []
  | o :: l, i =>
    match o.dst with
    | some d => (d, i) :: dsts l (i + 1)
    | none => dsts l (i + 1)

def pairsApart : List (Nat × Nat) → Bool
  | [] => true
  | (d, _) :: l => l.all (fun (e, _) => d != e) && pairsApart l

def readsAll (ops : List Oper) (ds : List (Nat × Nat)) : List Oper → Nat → Bool
  | [], _ => true
  | o :: l, i => readsOK ops ds i o && readsAll ops ds l (i + 1)

def edgesBack : List Oper → Nat → Bool
  | [], _ => true
  | o :: l, i => (o.after.toList.all fun e => !Region.binds .any e || decide (e.on < i)) && edgesBack l (i + 1)

/-- Does an operation look at no memory? -/
def pureOp : Op → Bool
  | .move _ | .nilCheck _ | .sliceToArrayPointer .. | .pick .. | .fieldAddr .. | .field .. | .indexAddr .. | .index .. | .extract .. | .binOp .. | .unOp .. | .build .. | .slice .. | .makeFunc .. => true
  | .convert src dst _ => !(Nat.beq src dst)
  | _ => false

/-- Does an operation's value hang on its operands alone? -/
def pureX : Op → Bool
  | .call { callee := .builtin .len, args := _, argTypes := _ } => true
  | .call { callee := .builtin .max, args := _, argTypes := _ } => true
  | .call { callee := .builtin .min, args := _, argTypes := _ } => true
  | op => pureOp op
theorem pureX_of {op : Op} (h : pureOp op = true) : pureX op = true := by
  unfold pureX
  split <;> first | rfl | exact h
/-- Are calls let by? Of which functions? -/
abbrev Ad := Option (FuncId → Bool)
def Ad.at : Ad → FuncId → Bool
  | some f, g => f g
  | none, _ => false
/-- May an operation of the tail come up ahead of one of the head that looks at no memory? -/
def simpleOp (ad : Ad) : Op → Bool
  | .store .. => true
  | .assign _ => true
  | .call { callee := .builtin .append, args := _, argTypes := _ } => true
  | .call { callee := .value (.func g), args := _, argTypes := _ } => Ad.at ad g
  | .call { callee := .builtin .len, args := _, argTypes := _ } => ad.isSome
  | .call { callee := .builtin .max, args := _, argTypes := _ } => ad.isSome
  | .call { callee := .builtin .min, args := _, argTypes := _ } => ad.isSome
  | .load .. => ad.isSome
  | .buildSlice .. => ad.isSome
  | op => pureOp op

/-- The first operation of a list that waits for operation i. -/
def firstWait : List Oper → Nat → Nat → Nat
  | [], _, k => k
  | o :: l, i, k => if waits o i then k else firstWait l i (k + 1)

def lateK (ops : List Oper) (n i : Nat) : Nat := firstWait (ops.drop (n + 1)) i (n + 1)

/-- The block that an address lies in, if it's one of ours. -/
def lookAt (tv : TV A) : Option (Option Nat) :=
  match tv with
  | .val false [.p k _] => some (some k)
  | .val false [.r k _ _ _] => some (some k)
  | .val false [.q _ _ _] => some none
  | _ => none

/-- The block below l that slot x points into. -/
def blkAt (T : List (TV A)) (l x : Nat) : Option (Option Nat) :=
  match nth T x with
  | some tv =>
    match lookAt tv with
    | some (some k) => if k < l then some (some k) else none
    | some none => some none
    | none => none
  | none => none

/-- The block that slot y points into at the end (F), if it's one of ours; a new one only where calls are let by. -/
def blkOf (ad : Ad) (F : List (TV A)) (l y : Nat) : Option (Option Nat) :=
  if ad.isSome then (match nth F y with | some tv => lookAt tv | none => none) else blkAt F l y

def pureOr (ad : Ad) (o : Oper) : Bool := pureOp o.op || (ad.isSome && pureX o.op) || (match o.op with | .load _ (.tmp _) => true | _ => false)

/-- A load: the tail's ahead of the first that waits for it write other blocks. (T: the slots behind the head; l: how many blocks there are.) -/
def loadApart (ad : Ad) (ops : List Oper) (n i : Nat) (T F : List (TV A)) (l : Nat) (o : Oper) : Bool :=
  match o.op with
  | .load _ (.tmp x) =>
    match blkAt T l x with
    | some none => true
    | some (some k) => (List.range (lateK ops n i - n)).all fun r =>
        match nth ops (n + r) with
        | none => true
        | some m =>
        match m.op with
        | .store _ (.tmp y) _ => (match blkOf ad F l y with | some (some k') => k' != k | _ => false) && (ops.drop (n + r)).all fun m' => (match m'.dst with | some d => d != y | none => true)
        | .store .. => false
        | .call { callee := .value (.func g), args := _, argTypes := _ } => Ad.at ad g
        | .call .. => false
        | _ => true
    | none => false
  | _ => true

/-- Operation o (number i) of the head looks at no memory that the tail's ahead of the first that waits for it write, and minds none of them: it may come up late. -/
def lateO (ad : Ad) (ops : List Oper) (n i : Nat) (T F : List (TV A)) (l : Nat) (o : Oper) : Bool :=
  pureOr ad o && o.guard.isNone &&
  (((ops.drop n).take (lateK ops n i - n)).all fun m => simpleOp ad m.op && m.guard.isNone &&
    (match m.dst with | some dm => (match o.dst with | some d => d != dm | none => true) && (looks ops o).all (fun x => x != dm) | none => true) &&
    (match o.dst with | some d => (looks ops m).all (fun x => x != d) | none => true)) && loadApart ad ops n i T F l o

def lateB (ad : Ad) (ops : List Oper) (n : Nat) (T F : List (TV A)) (l i : Nat) : Bool :=
  match nth ops i with
  | some o => lateO ad ops n i T F l o
  | none => false

/-- Each operation of the head that may not be late is waited for by a later such one of the head or by the tail's first; each of the tail behind the first waits for the one ahead of it. -/
def sinks (ad : Ad) (ops : List Oper) (n : Nat) (T F : List (TV A)) (l : Nat) : Bool :=
  ((List.range n).all fun i => lateB ad ops n T F l i || ((List.range (n - i)).any fun k => (Nat.beq (i + 1 + k) n || !lateB ad ops n T F l (i + 1 + k)) && (match nth ops (i + 1 + k) with | some o => waits o i | none => false))) &&
  ((List.range (ops.length - n - 1)).all fun k => match nth ops (n + k + 1) with | some o => waits o (n + k) | none => false)

def drawOK (ad : Ad) (ops : List Oper) (n : Nat) (T F : List (TV A)) (l : Nat) : Bool :=
  let ds := dsts (ops.take n) 0
  (ops.take n).all (fun o => o.dst.isSome) && pairsApart ds && readsAll ops ds (ops.take n) 0 && edgesBack ops 0 && (decide (n = ops.length) || sinks ad ops n T F l)

/-- The head, in the text's order; memory is read as it was ahead of it; new blocks are laid behind one another. -/
def execHead (c : Cfg A) (ops : List Oper) (m0 : Mem A) (rd : Nat) : List Oper → List (TV A) → Mem A → List Prop → Option (List (TV A) × Mem A × List Prop)
  | [], t, new, vc => some (t, new, vc)
  | o :: rest, t, new, vc =>
    match o.dst with
    | none => none
    | some d =>
      if d < t.length then
        match o.op with
        | .alloc ty =>
          match o.guard, zeroT c.P ty with
          | none, some cells => execHead c ops m0 rd rest (setN t d (.val false [.p (m0.length + new.length) 0])) (new ++ [some ⟨cells, ty, false⟩]) vc
          | _, _ => none
        | op =>
          match wants ops ⟨t, m0, rd, [], []⟩ o with
          | some true =>
            match opV c ⟨t, m0, rd, [], []⟩ op with
            | some (v, vc2) => execHead c ops m0 rd rest (setN t d (decT c rd (some d) v).1) new ((decT c rd (some d) v).2 ++ (vc2 ++ vc))
            | none => none
          | some false => execHead c ops m0 rd rest (setN t d undefT) new vc
          | none => none
      else none

/-- With a head of n operations. -/
def execDrawN (ad : Ad) (n : Nat) (c : Cfg A) (ops : List Oper) (st : St A) : Option (St A) :=
  match execHead c ops st.m st.rd (ops.take n) st.t [] st.vc with
  | some (t, new, vc) =>
    match execOps c ops (ops.drop n) ⟨t, st.m ++ new, st.rd, vc, st.pd⟩ with
    | some st' => if drawOK ad ops n t st'.t st.m.length && c.P.follows .mixedOrders then some st' else none
    | none => none
  | none => none

/-- Where a number stands in a list. -/
def posOf : List Nat → Nat → Nat
  | [], _ => 0
  | x :: l, j => if Nat.beq x j then 0 else posOf l j + 1

/-- An operation where the region's are ordered otherwise. -/
def moved (p : List Nat) (o : Oper) : Oper := { o with after := (o.after.toList.map fun e => { e with on := posOf p e.on }).toArray }

/-- The region's operations in another order: number i is what was number p[i]. -/
def permOf (ops : List Oper) (p : List Nat) : List Oper := p.map fun i => match nth ops i with | some o => moved p o | none => default

/-- Is it an order of all of them, and do they bear no guards? -/
def permOK (ops : List Oper) (p : List Nat) : Bool :=
  Nat.beq p.length ops.length &&
  ((List.range ops.length).all fun i => (match nth p i with | some j => Nat.blt j ops.length && Nat.beq (posOf p j) i | none => false) && Nat.blt (posOf p i) ops.length && (match nth p (posOf p i) with | some j => Nat.beq j i | none => false)) &&
  ops.all fun o => o.guard.isNone && o.after.toList.all fun e => Nat.blt e.on ops.length

def hoistL : List Oper → Nat → List Nat → List Nat × List Nat
  | [], _, _ => ([], [])
  | o :: l, i, h =>
    if pureOp o.op && o.after.toList.all (fun e => !Region.binds .any e || h.any fun j => Nat.beq j e.on) then
      match hoistL l (i + 1) (i :: h) with | (a, b) => (i :: a, b)
    else match hoistL l (i + 1) h with | (a, b) => (a, i :: b)

/-- The same with loads. -/
def hoistQ : List Oper → Nat → List Nat → List Nat × List Nat
  | [], _, _ => ([], [])
  | o :: l, i, h =>
    if pureOr (some fun _ => false) o && o.after.toList.all (fun e => !Region.binds .any e || h.any fun j => Nat.beq j e.on) then
      match hoistQ l (i + 1) (i :: h) with | (a, b) => (i :: a, b)
    else match hoistQ l (i + 1) h with | (a, b) => (a, i :: b)
/-- In another order: the head, the tail. -/
def execDrawG (ad : Ad) (hl : List Nat × List Nat) (c : Cfg A) (ops : List Oper) (st : St A) : Option (St A) :=
  match hl with
  | (h, l) => if permOK ops (h ++ l) then execDrawN ad h.length c (permOf ops (h ++ l)) st else none
/-- The operations that look at no memory, and wait for none but such, come first. -/
def execDrawP (c : Cfg A) (ops : List Oper) (st : St A) : Option (St A) := execDrawG none (hoistL ops 0 []) c ops st
/-- The head is as long as may be; or, where that doesn't do, its last one is left to the tail; or the operations that look at no memory come first; or these and the loads, and some calls don't mind them; or the head is as long as may be, and these too. -/
def execDraw (c : Cfg A) (ops : List Oper) (st : St A) : Option (St A) :=
  match execDrawN none (headLen ops) c ops st with
  | some r => some r
  | none =>
    match execDrawN none (headLen ops - 1) c ops st with
    | some r => some r
    | none =>
      match execDrawP c ops st with
      | some r => some r
      | none =>
        match execDrawG (some c.adds) (hoistQ ops 0 []) c ops st with
        | some r => some r
        | none => execDrawN (some c.adds) (headLen ops) c ops st
end
end Go.Sh

/- A region that draws its order comes to what its text's order comes to, whatever order is drawn. -/
namespace Go.Sh
open Go.RowKit

section
variable {A : Type} [Atom A]

theorem fillV_congr {place : Nat → Option (Nat × Nat)} {c : Cfg A} {st st' : St A} : ∀ {parts : List (Nat × Operand)} {cells : List (SV A)}, (∀ x ∈ parts, evO c st x.2 = evO c st' x.2) →
    fillV place c st cells parts = fillV place c st' cells parts
  | [], _, _ => rfl
  | (i, x) :: rest, cells, h => by
    have h1 := h (i, x) (by simp)
    simp only at h1
    have ih := fun cells => fillV_congr (place := place) (c := c) (st := st) (st' := st') (parts := rest) (cells := cells) (fun y hy => h y (by simp [hy]))
    simp only [fillV, h1]
    split
    · split
      · split
        · split
          · exact ih _
          · rfl
        · rfl
      · rfl
    · rfl


theorem evL_congr {c : Cfg A} {st st' : St A} : ∀ {l : List Operand}, (∀ x ∈ l, evO c st x = evO c st' x) → evL c st l = evL c st' l
  | [], _ => rfl
  | x :: l, h => by
    simp only [evL, h x (by simp), evL_congr (l := l) (fun y hy => h y (by simp [hy]))]


theorem bndO_congr {c : Cfg A} {st st' : St A} {y d : Nat} {o : Option Operand} (h : ∀ x, o = some x → evO c st x = evO c st' x) : bndO c st y d o = bndO c st' y d o := by
  cases o with
  | none => rfl
  | some x => simp only [bndO, h x rfl]

theorem bndE_congr {c : Cfg A} {st st' : St A} {y d : Nat} {o : Option Operand} (h : ∀ x, o = some x → evO c st x = evO c st' x) : bndE c st y d o = bndE c st' y d o := by
  cases o with
  | none => rfl
  | some x => simp only [bndE, h x rfl]


theorem evK_congr {c : Cfg A} {st st' : St A} {x : Operand} (h : evO c st x = evO c st' x) : evK c st x = evK c st' x := by simp only [evK, h]

theorem opV_congr {c : Cfg A} {st st' : St A} {op : Op} (hm : pureX op = false → st.m = st'.m) (h : ∀ x ∈ op.operands, evO c st x = evO c st' x) : opV c st op = opV c st' op := by
  cases op with
  | move x => simp only [opV, h x (by simp [Op.operands])]
  | assign x => simp only [opV, h x (by simp [Op.operands])]
  | pick q x y =>
    have e1 := h q (by simp [Op.operands])
    have e2 := h x (by simp [Op.operands])
    have e3 := h y (by simp [Op.operands])
    simp only [opV, e1]
    split
    · split
      · rename_i b _
        cases b
        · simp only [Bool.false_eq_true, if_false, e3]
        · simp only [if_true, e2]
      · rfl
    · rfl
  | fieldAddr t x f => simp only [opV, h x (by simp [Op.operands])]
  | nilCheck x => simp only [opV, h x (by simp [Op.operands])]
  | field t x f => simp only [opV, h x (by simp [Op.operands])]
  | indexAddr t x ix => simp only [opV, evK_congr (h x (by simp [Op.operands])), h ix (by simp [Op.operands])]
  | sliceToArrayPointer arr x => simp only [opV, evK_congr (h x (by simp [Op.operands]))]
  | index t x ix => simp only [opV, h x (by simp [Op.operands]), h ix (by simp [Op.operands])]
  | load t x => simp only [opV, h x (by simp [Op.operands]), hm rfl]
  | extract x i => simp only [opV, h x (by simp [Op.operands])]
  | binOp o t x y yt => simp only [opV, h x (by simp [Op.operands]), h y (by simp [Op.operands])]
  | unOp o t x => simp only [opV, h x (by simp [Op.operands])]
  | convert s d x => simp only [opV, h x (by simp [Op.operands])]
  | build t parts =>
    have e := fun place cells => fillV_congr (place := place) (c := c) (st := st) (st' := st') (parts := parts.toList) (cells := cells) (fun x hx => h x.2 (by
      simp only [Op.operands, List.mem_toArray, List.mem_map]
      exact ⟨x, hx, rfl⟩))
    simp only [opV, e]
  | makeSlice t x y => simp only [opV, h x (by simp [Op.operands]), h y (by simp [Op.operands])]
  | buildSlice t len parts =>
    have e := fun place cells => fillV_congr (place := place) (c := c) (st := st) (st' := st') (parts := parts.toList) (cells := cells) (fun x hx => h x.2 (by
      simp only [Op.operands, List.mem_toArray, List.mem_map]
      exact ⟨x, hx, rfl⟩))
    simp only [opV, e]
  | slice t x lo hi mx =>
    have e1 := evK_congr (h x (by simp [Op.operands]))
    have e2 : ∀ y, lo = some y → evO c st y = evO c st' y := fun y hy => h y (by subst hy; simp [Op.operands])
    have e3 : ∀ y, hi = some y → evO c st y = evO c st' y := fun y hy => h y (by subst hy; simp [Op.operands])
    have e4 : ∀ y, mx = some y → evO c st y = evO c st' y := fun y hy => h y (by subst hy; simp [Op.operands])
    have e5 : ∀ i off len cap e, sliceV c st i off len cap e lo hi mx = sliceV c st' i off len cap e lo hi mx := by
      intro i off len cap e
      simp only [sliceV, bndO_congr e2, bndO_congr e3, bndO_congr e4]
    have e6 : ∀ ad f i len cap e, sliceE c st ad f i len cap e lo hi mx = sliceE c st' ad f i len cap e lo hi mx := by
      intro ad f i len cap e
      simp only [sliceE, bndE_congr e2, bndE_congr e3, bndE_congr e4]
    have e7 : ∀ n, boundsH c st n lo hi mx = boundsH c st' n lo hi mx := by
      intro n
      simp only [boundsH, bndE_congr e2, bndE_congr e3, bndE_congr e4]
    simp only [opV, e1, e5, e6, e7]
  | makeFunc fn first captured =>
    cases fn with
    | func g =>
      have e := evL_congr (c := c) (st := st) (st' := st') (l := captured.toList) (fun x hx => h x (by
        simp only [Op.operands, Array.mem_append]
        exact .inr (by simpa using hx)))
      simp only [opV, e]
    | _ => rfl
  | call cl =>
    obtain ⟨callee, args, ats⟩ := cl
    have e := evL_congr (c := c) (st := st) (st' := st') (l := args.toList) (fun x hx => h x (by
      simp only [Op.operands, Call.operands, Array.mem_append]
      exact .inr (by simpa using hx)))
    cases callee with
    | value f => cases f <;> first | rfl | (simp only [opV, e, hm rfl])
    | builtin b => cases b <;> first | rfl | (simp only [opV, e]; done) | (simp only [opV, e, hm rfl])
    | invoke r m => rfl
  | _ => rfl

omit [Atom A] in
theorem wants_congr {st st' : St A} {ops : List Oper} {o : Oper} (h : ∀ j w oj d, o.guard = some (j, w) → nth ops j = some oj → oj.dst = some d → nth st.t d = nth st'.t d) :
    wants ops st o = wants ops st' o := by
  unfold wants
  split
  · rfl
  · rename_i j w hg
    split
    · rename_i oj hj
      split
      · rename_i d hd
        rw [h j w oj d hg hj hd]
      · rfl
    · rfl

def isAlloc : Op → Bool
  | .alloc _ => true
  | _ => false

/-- How many new blocks are laid ahead of operation i. -/
def cnt (l : List Oper) (i : Nat) : Nat := ((l.take i).filter fun o => isAlloc o.op).length

theorem cnt_succ {l : List Oper} {i : Nat} {o : Oper} (h : l[i]? = some o) : cnt l (i + 1) = cnt l i + (if isAlloc o.op then 1 else 0) := by
  unfold cnt
  obtain ⟨hi, rfl⟩ := List.getElem?_eq_some_iff.1 h
  rw [List.take_succ_eq_append_getElem hi, List.filter_append, List.length_append]
  congr 1
  simp only [List.filter_cons, List.filter_nil]
  split <;> rfl

theorem cnt_mono {l : List Oper} {i j : Nat} (h : i ≤ j) : cnt l i ≤ cnt l j := by
  unfold cnt
  have : l.take i = (l.take j).take i := by rw [List.take_take]; congr 1; omega
  rw [this]
  exact ((List.take_sublist i (l.take j)).filter _).length_le

theorem cnt_lt {l : List Oper} {i j : Nat} {o : Oper} (h : l[i]? = some o) (ha : isAlloc o.op = true) (hij : i < j) : cnt l i < cnt l j := by
  have h1 := cnt_succ h
  rw [if_pos ha] at h1
  have := cnt_mono (l := l) (i := i + 1) (j := j) hij
  omega

theorem cnt_surj {l : List Oper} : ∀ {n s : Nat}, s < cnt l n → ∃ i o, i < n ∧ l[i]? = some o ∧ isAlloc o.op = true ∧ cnt l i = s
  | 0, s, h => by simp [cnt] at h
  | n + 1, s, h => by
    rcases Nat.lt_or_ge s (cnt l n) with h' | h'
    · obtain ⟨i, o, h1, h2⟩ := cnt_surj h'
      exact ⟨i, o, by omega, h2⟩
    · cases ho : l[n]? with
      | none =>
        have : cnt l (n + 1) = cnt l n := by
          unfold cnt
          have hlen := List.getElem?_eq_none_iff.1 ho
          rw [List.take_of_length_le (by omega), List.take_of_length_le (by omega)]
        omega
      | some o =>
        have h1 := cnt_succ ho
        split at h1
        · rename_i ha
          exact ⟨n, o, by omega, ho, ha, by omega⟩
        · omega

/-- What the head's operation i came to, in the text's order. -/
def HeadFact (c : Cfg A) (L : List Oper) (m0 : Mem A) (rd : Nat) (T : List (TV A)) (New : Mem A) (VC : List Prop) (i : Nat) (o : Oper) (d : Nat) (ti : List (TV A)) : Prop :=
  (∃ ty cells, o.op = .alloc ty ∧ o.guard = none ∧ zeroT c.P ty = some cells ∧ nth New (cnt L i) = some (some ⟨cells, ty, false⟩) ∧ nth T d = some (.val false [.p (m0.length + cnt L i) 0])) ∨
  (isAlloc o.op = false ∧ ∃ b, wants L ⟨ti, m0, rd, [], []⟩ o = some b ∧
    (b = true → ∃ v vc2, opV c ⟨ti, m0, rd, [], []⟩ o.op = some (v, vc2) ∧ (∀ p ∈ vc2, p ∈ VC) ∧ (∀ p ∈ (decT c rd (some d) v).2, p ∈ VC) ∧ nth T d = some (decT c rd (some d) v).1) ∧ (b = false → nth T d = some undefT))

/-- The slots that operations k .. n - 1 write are apart. -/
def Apart (L : List Oper) (n : Nat) : Prop := ∀ i j oi oj d, i < n → j < n → L[i]? = some oi → L[j]? = some oj → oi.dst = some d → oj.dst = some d → i = j

theorem head_lex {c : Cfg A} {L : List Oper} {m0 : Mem A} {rd n : Nat} (hap : Apart L n) (hn : n ≤ L.length) :
    ∀ (f k : Nat) (t : List (TV A)) (new : Mem A) (vc : List Prop) (T : List (TV A)) (New : Mem A) (VC : List Prop), n - k = f → k ≤ n → new.length = cnt L k →
      execHead c L m0 rd ((L.take n).drop k) t new vc = some (T, New, VC) →
      T.length = t.length ∧ New.length = cnt L n ∧ (∀ s, s < new.length → nth New s = nth new s) ∧ (∀ p ∈ vc, p ∈ VC) ∧
      (∀ x, (∀ j o, k ≤ j → j < n → L[j]? = some o → o.dst ≠ some x) → nth T x = nth t x) ∧
      (∀ i o, k ≤ i → i < n → L[i]? = some o → ∃ d, o.dst = some d ∧ d < t.length ∧ ∃ ti, ti.length = t.length ∧
        (∀ j oj dj, k ≤ j → j < i → L[j]? = some oj → oj.dst = some dj → nth ti dj = nth T dj) ∧
        (∀ x, (∀ j oj, k ≤ j → j < i → L[j]? = some oj → oj.dst ≠ some x) → nth ti x = nth t x) ∧ HeadFact c L m0 rd T New VC i o d ti) := by
  intro f
  induction f with
  | zero =>
    intro k t new vc T New VC hf hk hl h
    have : (L.take n).drop k = [] := List.drop_of_length_le (by simp; omega)
    rw [this] at h
    simp [execHead] at h
    obtain ⟨rfl, rfl, rfl⟩ := h
    obtain rfl : k = n := by omega
    exact ⟨rfl, hl, fun _ _ => rfl, fun _ h => h, fun _ _ => rfl, fun i o h1 h2 => by omega⟩
  | succ f ih =>
    intro k t new vc T New VC hf hk hl h
    have hkn : k < n := by omega
    have hkL : k < L.length := by omega
    obtain ⟨o, hok⟩ : ∃ o, L[k]? = some o := ⟨L[k], by simp [hkL]⟩
    have hdrop : (L.take n).drop k = o :: (L.take n).drop (k + 1) := by
      rw [List.drop_eq_getElem_cons (by simp; omega)]
      congr 1
      obtain ⟨_, e⟩ := List.getElem?_eq_some_iff.1 hok
      simpa using e
    rw [hdrop] at h
    simp only [execHead] at h
    split at h
    · cases h
    · rename_i d hd
      split at h
      · rename_i hdl
        -- what one step, whatever it is, hands on
        have step : ∀ (v : TV A) (new' : Mem A) (vc' : List Prop), new'.length = cnt L (k + 1) → (∀ s, s < new.length → nth new' s = nth new s) → (∀ p ∈ vc, p ∈ vc') →
            execHead c L m0 rd ((L.take n).drop (k + 1)) (setN t d v) new' vc' = some (T, New, VC) →
            ((∀ p ∈ vc', p ∈ VC) → (∀ s, s < new'.length → nth New s = nth new' s) → nth T d = some v → HeadFact c L m0 rd T New VC k o d t) →
            T.length = t.length ∧ New.length = cnt L n ∧ (∀ s, s < new.length → nth New s = nth new s) ∧ (∀ p ∈ vc, p ∈ VC) ∧
            (∀ x, (∀ j o, k ≤ j → j < n → L[j]? = some o → o.dst ≠ some x) → nth T x = nth t x) ∧
            (∀ i o, k ≤ i → i < n → L[i]? = some o → ∃ d, o.dst = some d ∧ d < t.length ∧ ∃ ti, ti.length = t.length ∧
              (∀ j oj dj, k ≤ j → j < i → L[j]? = some oj → oj.dst = some dj → nth ti dj = nth T dj) ∧
              (∀ x, (∀ j oj, k ≤ j → j < i → L[j]? = some oj → oj.dst ≠ some x) → nth ti x = nth t x) ∧ HeadFact c L m0 rd T New VC i o d ti) := by
          intro v new' vc' hnew hpre hvcs hex hfact
          obtain ⟨g1, g2, g3, g4, g5, g6⟩ := ih (k + 1) (setN t d v) new' vc' T New VC (by omega) (by omega) hnew hex
          rw [setN_length] at g1
          have hlen' : new.length ≤ new'.length := by rw [hl, hnew]; exact cnt_mono (by omega)
          have hTd : nth T d = some v := by
            rw [g5 d (fun j oj h1 h2 h3 h4 => by have := hap k j o oj d hkn h2 hok h3 hd h4; omega), nth_setN]
            simp [hdl]
          refine ⟨g1, g2, fun s hs => ?_, fun p hp => g4 p (hvcs p hp), fun x hx => ?_, fun i oi h1 h2 h3 => ?_⟩
          · rw [g3 s (by omega), hpre s hs]
          · rw [g5 x (fun j oj h1 h2 h3 => hx j oj (by omega) h2 h3), nth_setN, if_neg]
            intro e
            subst e
            exact hx k o (Nat.le_refl _) hkn hok hd
          · by_cases hik : i = k
            · subst hik
              have : oi = o := Option.some.inj (h3.symm.trans hok)
              subst this
              exact ⟨d, hd, hdl, t, rfl, fun j _ _ h1 h2 => by omega, fun _ _ => rfl, hfact g4 g3 hTd⟩
            · obtain ⟨di, e1, e2, ti, e3, e4, e5, e6⟩ := g6 i oi (by omega) h2 h3
              rw [setN_length] at e2 e3
              refine ⟨di, e1, e2, ti, e3, fun j oj dj h4 h5 h6 h7 => ?_, fun x hx => ?_, e6⟩
              · by_cases hjk : j = k
                · subst hjk
                  have : oj = o := Option.some.inj (h6.symm.trans hok)
                  subst this
                  have : dj = d := Option.some.inj (h7.symm.trans hd)
                  subst this
                  rw [hTd, e5 dj (fun j' oj' h8 h9 h10 h11 => by have := hap j j' oj oj' dj hkn (by omega) hok h10 hd h11; omega), nth_setN]
                  simp [hdl]
                · exact e4 j oj dj (by omega) h5 h6 h7
              · rw [e5 x (fun j oj h4 h5 h6 => hx j oj (by omega) h5 h6), nth_setN, if_neg]
                intro e
                subst e
                exact hx k o (Nat.le_refl _) (by omega) hok hd
        have hcs := cnt_succ hok
        split at h
        · rename_i ty hop
          split at h
          · rename_i cells hg hz
            have ha : isAlloc o.op = true := by rw [hop]; rfl
            rw [if_pos ha] at hcs
            refine step _ _ vc (by simp [hl, hcs]) (fun s hs => nth_append_lt hs) (fun _ h => h) h (fun _ k2 k3 => .inl ⟨ty, cells, hop, hg, hz, ?_, ?_⟩)
            · rw [k2 _ (by simp [hl]), ← hl, nth_snoc]
            · rw [k3, hl]
          · cases h
        · rename_i hnal
          have ha : isAlloc o.op = false := by
            cases hop : o.op <;> first | rfl | exact absurd hop (hnal _)
          rw [if_neg (by rw [ha]; simp)] at hcs
          split at h
          · rename_i hw
            split at h
            · rename_i v vc2 hv
              refine step _ _ _ (by rw [hl, hcs, Nat.add_zero]) (fun _ _ => rfl) (fun p hp => by simp [hp]) h (fun k1 _ k3 => .inr ⟨ha, true, hw, fun _ => ⟨v, vc2, hv, fun p hp => k1 p (by simp [hp]), fun p hp => k1 p (by simp [hp]), k3⟩, fun e => by cases e⟩)
            · cases h
          · rename_i hw
            refine step _ _ _ (by rw [hl, hcs, Nat.add_zero]) (fun _ _ => rfl) (fun p hp => hp) h (fun k1 _ k3 => .inr ⟨ha, false, hw, fun e => (by cases e), fun _ => k3⟩)
          · cases h
      · cases h

end
end Go.Sh

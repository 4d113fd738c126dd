/- An operation of whatever kind, and a row of operations one behind the other, on shadows and on values. -/
import Derived.Test.YtbdbmcdcjejffaaEnC
set_option linter.unusedVariables false
set_option linter.unusedSimpArgs false
set_option linter.unusedSectionVars false
namespace Go.Sh
open Go.RowKit

section
variable {A : Type} [Atom A]

theorem nth_append_lt {α : Type} : ∀ {l r : List α} {i : Nat}, i < l.length → nth (l ++ r) i = nth l i := by
  intro l r i h
  rw [nth_eq, nth_eq, List.getElem?_append_left h]

theorem nth_lt {α : Type} {l : List α} {i : Nat} {x : α} (h : nth l i = some x) : i < l.length := by
  rw [nth_eq] at h
  exact (List.getElem?_eq_some_iff.1 h).1

theorem nth_snoc {α : Type} (l : List α) (x : α) : nth (l ++ [x]) l.length = some x := by
  rw [nth_eq]; simp

theorem nth_setN {α : Type} (l : List α) (i j : Nat) (y : α) : nth (setN l i y) j = if i = j then (if i < l.length then some y else none) else nth l j := by
  rw [nth_eq, setN_eq, nth_eq, List.getElem?_set]

/-- β with one more block. -/
def Adr.put (β : Adr) (k b : Nat) : Adr := ⟨fun i => if i = k then some b else β i, β.kp, β.kn, β.gs⟩

theorem Adr.put_at (β : Adr) (k b i : Nat) : (β.put k b) i = if i = k then some b else β i := rfl

theorem Adr.le_put {β : Adr} {k b : Nat} (h : β k = none) : Adr.le β (β.put k b) := by
  refine ⟨fun i b' e => ?_, fun _ h => h, fun _ _ h => h, fun _ _ _ h => h⟩
  rw [Adr.put_at]
  split
  · rename_i h'; subst h'; rw [h] at e; cases e
  · exact e

theorem setRow_at (w : World) (b k : Nat) (cs old : Array Value) (t : TypeId) (fz : Nat × Nat) (h : w.heap[b]? = some (.cells old t fz)) :
    (w.setRow b cs).heap[k]? = if k = b then some (.cells cs t fz) else w.heap[k]? := by
  unfold World.setRow
  simp only [Array.getElem?_modify]
  by_cases e : b = k
  · subst e; simp [h]
  · have e' : ¬ k = b := fun x => e x.symm
    simp [e, e']

theorem NC.setRow {w : World} {b : Nat} {old : Array Value} {t : TypeId} {fz : Nat × Nat} (h : w.heap[b]? = some (.cells old t fz)) (cs : Array Value) : NC w (w.setRow b cs) := fun k o hk ho => by
  rw [setRow_at w b k _ _ _ _ h, if_neg]
  · exact hk
  · rintro rfl
    rw [h] at hk
    cases hk
    cases ho

/-- A new block. -/
theorem MRel.alloc {c : Cfg A} {X : Nat → Prop} {W0 W : World} {β : Adr} {m m' : Mem A} {k : Nat} {cells : List (SV A)} {vs : List Value} {t : TypeId} (h : MRel c X W0 β m W) (hk : β k = none) (hv : LIs β cells vs)
    (hm : ∀ i blk, nth m' i = some (some blk) → (i = k ∧ blk = ⟨cells, t, false⟩) ∨ (i ≠ k ∧ nth m i = some (some blk))) :
    MRel c X W0 (β.put k W.heap.size) m' (W.alloc (.cells vs.toArray t)) := by
  have hle : Adr.le β (β.put k W.heap.size) := Adr.le_put hk
  have hal : ∀ i, i < W.heap.size → (W.alloc (.cells vs.toArray t)).heap[i]? = W.heap[i]? := fun i hi => (Keeps.alloc W _).block i hi id
  have hplain : ∀ (blk : Blk A) v n l, blk = ⟨cells, t, false⟩ → blk.vec ≠ some (v, n, l) := by
    rintro blk v n l rfl e
    unfold Blk.vec at e
    split at e
    · rename_i heq
      change cells = _ at heq
      rw [heq] at hv
      obtain ⟨_, _, h1, _⟩ := hv
      exact h1
    · cases e
  have hk' := h.keeps (Keeps.alloc W (.cells vs.toArray t))
  have vin : ∀ {i b}, vecIn (β.put k W.heap.size) m' i b → vecIn β m i b ∧ i ≠ k := by
    rintro i b ⟨blk, v, n, l, cap, g1, g2, g3⟩
    rcases hm i blk g1 with ⟨rfl, e⟩ | ⟨hne, hi'⟩
    · exact absurd g2 (hplain blk v n l e)
    · exact ⟨⟨blk, v, n, l, cap, hi', g2, g3⟩, hne⟩
  refine ⟨?_, ?_, ?_, h.ext.trans (Keeps.alloc W _).ext, fun g i e => hle.pl _ _ (h.glob g i e), h.old, hk'.nc, fun a v hkn => ?_, fun i blk v n l hi hvec => ?_, fun i b hvi j => ?_⟩
  rotate_left 3
  · obtain ⟨g1, g2, g3⟩ := hk'.kn a v hkn
    refine ⟨g1, g2, fun i hw => ?_⟩
    have hlt := cell?_lt (h.kn a v hkn).1
    rcases hw with ⟨blk, w1, w2, w3, w4⟩ | hw
    · rcases hm i blk w1 with ⟨rfl, e⟩ | ⟨hne, hi'⟩
      · rw [Adr.put_at, if_pos rfl] at w4
        have := Option.some.inj w4
        omega
      · rw [Adr.put_at, if_neg hne] at w4
        exact g3 i (.inl ⟨blk, hi', w2, w3, w4⟩)
    · exact g3 i (.inr (vin hw).1)
  · rcases hm i blk hi with ⟨rfl, e⟩ | ⟨hne, hi'⟩
    · exact absurd hvec (hplain blk v n l e)
    · have g := hk'.vec i blk v n l hi' hvec
      exact g.mono hle (by rw [Adr.put_at, if_neg hne]; exact g.free) g.last
  · obtain ⟨hvi', hne⟩ := vin hvi
    obtain ⟨s1, s2⟩ := h.sep i b hvi' j
    refine ⟨fun blk hj e => ?_, fun hvj => s2 (vin hvj).1⟩
    rcases hm j blk hj with ⟨rfl, _⟩ | ⟨hnj, hj'⟩
    · rw [Adr.put_at, if_pos rfl] at e
      have := wrt.lt h (.inr hvi')
      have := Option.some.inj e
      omega
    · rw [Adr.put_at, if_neg hnj] at e
      exact s1 blk hj' e
  · intro i blk hi hnv
    rcases hm i blk hi with ⟨rfl, rfl⟩ | ⟨hne, hi'⟩
    · refine ⟨W.heap.size, vs, (0, 0), by simp [Adr.put_at], hv.mono hle, ?_, fun _ => ⟨rfl, .inl h.ext.size⟩⟩
      show (W.heap.push _)[W.heap.size]? = _
      simp
    · obtain ⟨b, us, fz, h1, h2, h3, h4⟩ := h.mem i blk hi' hnv
      exact ⟨b, us, fz, hle.pl _ _ h1, h2.mono hle, by rw [hal b (h.dom i b h1)]; exact h3, h4⟩
  · intro i j bi bj b li lj hi hj
    rw [Adr.put_at] at hi hj
    rcases hm i bi li with ⟨e1, _⟩ | ⟨e1, li⟩ <;> rcases hm j bj lj with ⟨e2, _⟩ | ⟨e2, lj⟩
    · omega
    · rw [if_pos e1] at hi; rw [if_neg e2] at hj; have := h.dom j b hj; simp at hi; omega
    · rw [if_neg e1] at hi; rw [if_pos e2] at hj; have := h.dom i b hi; simp at hj; omega
    · rw [if_neg e1] at hi; rw [if_neg e2] at hj; exact h.inj i j bi bj b li lj hi hj
  · intro i b hi
    show b < (W.heap.push _).size
    rw [Adr.put_at] at hi
    split at hi
    · simp at hi ⊢; omega
    · have := h.dom i b hi; simp; omega

/-- A block is written. -/
theorem MRel.setRow {c : Cfg A} {X : Nat → Prop} {W0 W : World} {β : Adr} {m : Mem A} {i b : Nat} {blk : Blk A} {cells : List (SV A)} {vs us : List Value} (h : MRel c X W0 β m W)
    (hb : β i = some b) (hi : nth m i = some (some blk)) (hro : blk.ro = false) (hold : W.heap[b]? = some (.cells us.toArray blk.ty (0, 0))) (hv : LIs β cells vs) :
    MRel c X W0 β (setN m i (some ⟨cells, blk.ty, false⟩)) (W.setRow b vs.toArray) := by
  obtain ⟨b', us', fz, g1, g2, g3, g4⟩ := h.mem' hi hb
  have : b' = b := by rw [hb] at g1; exact (Option.some.inj g1).symm
  subst this
  have hpl := h.plain hi hb
  obtain ⟨_, gx⟩ := g4 hro
  have hsz : (W.setRow b' vs.toArray).heap.size = W.heap.size := size_setRow _ _ _
  have lives : ∀ j blk', nth (setN m i (some ⟨cells, blk.ty, false⟩)) j = some (some blk') → ∃ bj, nth m j = some (some bj) := by
    intro j blk' hj
    rw [nth_setN] at hj
    split at hj
    · rename_i e; subst e; exact ⟨blk, hi⟩
    · exact ⟨blk', hj⟩
  have hnew : (⟨cells, blk.ty, false⟩ : Blk A).vec = none := by
    unfold Blk.vec
    split
    · rename_i heq
      change cells = _ at heq
      rw [heq] at hv
      obtain ⟨_, _, h1, _⟩ := hv
      exact h1.elim
    · rfl
  have hb0 : wrt β m i b' := .inl ⟨blk, hi, hpl, hro, hb⟩
  have entry : ∀ {j blk'}, nth (setN m i (some ⟨cells, blk.ty, false⟩)) j = some (some blk') → (j = i ∧ blk' = ⟨cells, blk.ty, false⟩) ∨ (i ≠ j ∧ nth m j = some (some blk')) := by
    intro j blk' hj
    rw [nth_setN] at hj
    split at hj
    · rename_i e
      split at hj
      · simp at hj; exact .inl ⟨e.symm, hj.symm⟩
      · cases hj
    · rename_i e; exact .inr ⟨e, hj⟩
  have vin : ∀ {j b}, vecIn β (setN m i (some ⟨cells, blk.ty, false⟩)) j b → vecIn β m j b := by
    rintro j b ⟨blk', v, n, l, cap, g1, g2, g3⟩
    rcases entry g1 with ⟨_, rfl⟩ | ⟨_, hj'⟩
    · rw [hnew] at g2; cases g2
    · exact ⟨blk', v, n, l, cap, hj', g2, g3⟩
  have win : ∀ {j b}, wrt β (setN m i (some ⟨cells, blk.ty, false⟩)) j b → wrt β m j b := by
    rintro j b (⟨blk', w1, w2, w3, w4⟩ | hw)
    · rcases entry w1 with ⟨rfl, rfl⟩ | ⟨_, hj'⟩
      · have : b = b' := Option.some.inj (w4.symm.trans hb)
        rw [this]; exact hb0
      · exact .inl ⟨blk', hj', w2, w3, w4⟩
    · exact .inr (vin hw)
  have other : ∀ {b}, b ≠ b' → (W.setRow b' vs.toArray).heap[b]? = W.heap[b]? := fun {b} hne => by rw [setRow_at W b' b _ _ _ _ hold, if_neg hne]
  refine ⟨?_, fun j j' bj bj' b l1 l2 => ?_, fun j b hj => by rw [hsz]; exact h.dom j b hj, ?_, h.glob, h.old, fun k hk => ?_, fun a v hkn => ?_, fun j blk' v n l hj hvec => ?_, fun j b hvj j2 => ?_⟩
  rotate_left 4
  · obtain ⟨k1, k2, k3⟩ := h.kn a v hkn
    exact ⟨cell?_same k1 (other (fun e => k3 i (e ▸ hb0))), k2, fun j hw => k3 j (win hw)⟩
  · rcases entry hj with ⟨_, rfl⟩ | ⟨_, hj'⟩
    · rw [hnew] at hvec; cases hvec
    · refine (h.vec j blk' v n l hj' hvec).kept (fun _ _ _ h => h) (fun b cap hb2 => other (fun e => ?_))
      subst e
      exact (h.sep j b ⟨blk', v, n, l, cap, hj', hvec, hb2⟩ i).1 blk hi hb
  · obtain ⟨s1, s2⟩ := h.sep j b (vin hvj) j2
    refine ⟨fun blk2 h2 e => ?_, fun hv2 => s2 (vin hv2)⟩
    obtain ⟨x, hx⟩ := lives j2 blk2 h2
    exact s1 x hx e
  · intro j blk' hj hnv
    rw [nth_setN] at hj
    split at hj
    · rename_i e
      subst e
      split at hj
      · simp at hj
        subst hj
        exact ⟨b', vs, (0, 0), hb, hv, by rw [setRow_at W b' b' _ _ _ _ hold]; simp, fun _ => ⟨rfl, gx⟩⟩
      · cases hj
    · rename_i hne
      obtain ⟨b2, us2, fz2, k1, k2, k3, k4⟩ := h.mem j blk' hj hnv
      have hb2 : ¬ b2 = b' := fun e => hne (h.inj i j blk blk' b' hi hj hb (e ▸ k1))
      exact ⟨b2, us2, fz2, k1, k2, by rw [setRow_at W b' b2 _ _ _ _ hold, if_neg hb2]; exact k3, k4⟩
  · obtain ⟨x, hx⟩ := lives j bj l1
    obtain ⟨y, hy⟩ := lives j' bj' l2
    exact h.inj j j' x y b hx hy
  · refine ⟨h.ext.os, h.ext.tape, h.ext.output, by rw [hsz]; exact h.ext.size, fun k hk hx => ?_⟩
    rw [setRow_at W b' k _ _ _ _ hold, if_neg ?_]
    · exact h.ext.block k hk hx
    · intro e
      subst e
      rcases gx with gx | gx
      · omega
      · exact hx gx
  · have := h.nc k hk
    rw [setRow_at W b' k _ _ _ _ hold, if_neg]
    · exact this
    · intro e
      subst e
      rw [hold] at this
      cases this.1

omit [Atom A] in
theorem Top.append {β : Adr} {m : Mem A} {x : Option (Blk A)} {b : Nat} (h : Top β m) : Top (β.put m.length b) (m ++ [x]) := by
  intro i hi
  simp at hi
  refine ⟨?_, (h i (by omega)).2⟩
  rw [Adr.put_at, if_neg (by omega)]
  exact (h i (by omega)).1

theorem setN_length {α : Type} (l : List α) (i : Nat) (y : α) : (setN l i y).length = l.length := by rw [setN_eq]; simp

omit [Atom A] in
theorem Top.setN {β : Adr} {m : Mem A} {x : Option (Blk A)} {i : Nat} (h : Top β m) : Top β (Sh.setN m i x) := by
  intro j hj
  rw [setN_length] at hj
  exact h j hj

omit [Atom A] in
theorem append_cases {m : Mem A} {b : Blk A} (i : Nat) (blk : Blk A) (h : nth (m ++ [some b]) i = some (some blk)) : (i = m.length ∧ blk = b) ∨ (i ≠ m.length ∧ nth m i = some (some blk)) := by
  have hl := nth_lt h
  simp at hl
  by_cases e : i = m.length
  · subst e
    rw [nth_snoc] at h
    simp at h
    exact .inl ⟨rfl, h.symm⟩
  · rw [nth_append_lt (by omega)] at h
    exact .inr ⟨e, h⟩

theorem LIs.replicate {β : Adr} {z : List (SV A)} {vs : List Value} (h : LIs β z vs) : ∀ k : Nat, LIs β (List.replicate k z).flatten (List.replicate k vs).flatten
  | 0 => rfl
  | k + 1 => by simp only [List.replicate_succ, List.flatten_cons]; exact h.append (LIs.replicate h k)

theorem flat_cells {vs : List Value} {s : Nat} (hs : vs.length = s + 1) (k : Nat) : ((Array.range (k * (s + 1))).map (fun i => vs.toArray[i % vs.toArray.size]!)).toList = (List.replicate k vs).flatten := by
  apply List.ext_getElem
  · simp [List.length_flatten, hs]
  · intro i h1 h2
    simp at h1
    have hm : i % (s + 1) < vs.length := by rw [hs]; exact Nat.mod_lt _ (by omega)
    have key : ∀ (k i : Nat) (h : i < (List.replicate k vs).flatten.length), (List.replicate k vs).flatten[i]'h = vs[i % (s + 1)]'(by rw [hs]; exact Nat.mod_lt _ (by omega)) := by
      intro k
      induction k with
      | zero => intro i h; simp at h
      | succ k ih =>
        intro i h
        simp only [List.replicate_succ, List.flatten_cons, List.getElem_append]
        split
        · rename_i hlt
          congr 1
          exact (Nat.mod_eq_of_lt (by omega)).symm
        · rename_i hge
          rw [ih]
          congr 1
          rw [hs] at hge ⊢
          rw [← Nat.mod_eq_sub_mod (by omega)]
    rw [key k i h2]
    simp only [Array.toList_map, Array.toList_range, List.getElem_map, List.getElem_range, List.size_toArray, hs]
    rw [List.getElem!_toArray, getElem!_pos vs (i % (s + 1)) hm]

omit [Atom A] in
theorem callX_vc {c : Cfg A} {st st' : St A} {d : Option Tmp} {g : FuncId} {l : List (TV A)} (h : callX c st d g l = some st') : ∀ p ∈ st.vc, p ∈ st'.vc := by
  have hp : ∀ (s : St A) d v, (putT s d v).vc = s.vc := by intro s d v; cases d <;> rfl
  unfold callX at h
  split at h <;> (try cases h) <;> (intro p hp'; simp [hp, hp'])

theorem exec1_vc {c : Cfg A} {st st' : St A} {o : Oper} (h : exec1 c st o = some st') : ∀ p ∈ st.vc, p ∈ st'.vc := by
  have hp : ∀ (s : St A) d v, (putT s d v).vc = s.vc := by intro s d v; cases d <;> rfl
  unfold exec1 at h
  split at h <;> (try (repeat' split at h)) <;> first | (cases h; done) | exact callX_vc h | (cases h; intro p hp'; simp [hp, hp'])

theorem storeV_run {c : Cfg A} {X : Nat → Prop} {W0 W : World} {β : Adr} {m m' : Mem A} {t : TypeId} {xv yv : TV A} {u v : Value} (hm : MRel c X W0 β m W) (h : storeV c.P m t xv yv = some m') (hx : xv.Is β u) (hy : yv.Is β v) :
    ∃ W', (Instr.storeAt t u v).run c.P W = .ok () W' ∧ MRel c X W0 β m' W' ∧ (Top β m → Top β m') ∧ NC W W' := by
  unfold storeV at h
  split at h
  · rename_i i off l hl
    split at h
    · rename_i blk hb
      split at h
      · rename_i cells hro ho
        split at h
        · rename_i hsz
          obtain rfl := Option.some.inj h
          obtain ⟨b, hb1, e⟩ := LIs.single (hx : LIs β _ [u])
          simp at e; subst e
          obtain ⟨b', us, fz, g1, g2, g3, g4⟩ := hm.mem' hb hb1
          have : b' = b := by rw [hb1] at g1; exact (Option.some.inj g1).symm
          subst this
          obtain ⟨rfl, gx⟩ := g4 hro
          have hy' := cellsT_is hy hl
          obtain ⟨h1, h2⟩ := over_is g2 hy' ho
          have hs : sizeT c.P t = some v.cells.toList.length := by rw [hsz, hy'.len]
          exact ⟨_, by simp [Instr.storeAt, Instr.sureAddr, run_storePart hs g3 h2 hy'.one], hm.setRow hb1 hb hro g3 h1, fun ht => ht.setN, NC.setRow g3 _⟩
        · cases h
      · cases h
    · cases h
  · rename_i i off n z s hl
    split at h
    · rename_i blk hb
      split at h
      · rename_i l y hro hc hy1 hsz
        split at h
        · rename_i row hrow
          split at h
          · rename_i hn
            split at h
            · rename_i row' hset
              split at h
              · rename_i cells ho
                obtain rfl := Option.some.inj h
                obtain ⟨hz, b, hb1, e⟩ := LIs.single (hx : LIs β _ [u])
                simp at e; subst e
                obtain ⟨b', us, fz, g1, g2, g3, g4⟩ := hm.mem' hb hb1
                have : b' = b := by rw [hb1] at g1; exact (Option.some.inj g1).symm
                subst this
                obtain ⟨rfl, gx⟩ := g4 hro
                have hy' := cellsT_is hy hl
                obtain ⟨x, q, hx1, hq, e⟩ := hy'
                obtain rfl : q = [] := hq
                rw [List.append_nil] at e
                subst e
                obtain ⟨h1, h2⟩ := cut_is g2 hc
                have hr := rowA_is h1 hrow
                obtain ⟨w, k1, k2⟩ := Atom.set_ok hset (by omega)
                have e2 := atomOf_is hx1 hy1
                rw [k1] at e2
                have hrl : ((us.drop off).take n).length = n := by simp; omega
                have hnew : LIs β [.a row'] (((us.drop off).take n).set z w) := by
                  refine ⟨_, [], rfl, rfl, ?_⟩
                  rw [List.append_nil, k2, ← hr]
                obtain ⟨o1, o2⟩ := over_is g2 hnew ho
                rw [List.length_set, hrl] at o1 o2
                have hs : sizeT c.P t = some v.cells.toList.length := by rw [e2]; exact hsz
                have hone : ∀ x ∈ v.cells.toList, x.oneCell' = true := SV.Is.one hx1
                have hst := run_storePart (P := c.P) (w := W) (off := off + z) (v := v) hs g3 (by rw [e2]; simp; omega) hone
                rw [e2] at hst
                have e3 : us.take (off + z) ++ [w] ++ us.drop (off + z + [w].length) = us.take off ++ ((us.drop off).take n).set z w ++ us.drop (off + n) := by
                  have hz' : z < ((us.drop off).take n).length := by omega
                  rw [List.set_eq_take_append_cons_drop, if_pos hz']
                  have a1 : us.take (off + z) = us.take off ++ (us.drop off).take z := by rw [List.take_add]
                  have a2 : ((us.drop off).take n).take z = (us.drop off).take z := by rw [List.take_take]; congr 1; omega
                  have a3 : us.drop (off + z + 1) = ((us.drop off).take n).drop (z + 1) ++ us.drop (off + n) := by
                    rw [List.drop_take, List.drop_drop]
                    have : us.drop (off + n) = (us.drop (off + (z + 1))).drop (n - (z + 1)) := by rw [List.drop_drop]; congr 1; omega
                    rw [this, List.take_append_drop]
                    congr 1
                  rw [a1, a2]
                  show _ ++ us.drop (off + z + 1) = _
                  rw [a3]
                  simp [List.append_assoc]
                rw [e3] at hst
                exact ⟨_, by simp [Instr.storeAt, Instr.sureAddr, hst], hm.setRow hb1 hb hro g3 o1, fun ht => ht.setN, NC.setRow g3 _⟩
              · cases h
            · cases h
          · cases h
        · cases h
      · cases h
    · cases h
  · cases h

/-- Other objects than the loops' records lie as they lay. -/
def NX (c : Cfg A) (β : Adr) (W W' : World) : Prop := ∀ (k : Nat) (o : Obj), W.heap[k]? = some o → o.isCells = false → (∀ s ∈ c.ys, β s.ix ≠ some k) → W'.heap[k]? = some o

/-- The calls of yield are right. -/
def YOK (c : Cfg A) : Prop :=
  ∀ (i : Nat) (args : List (TV A)) (rd : Nat) (m : Mem A) (pd : Pds) (b : Bool) (m' : Mem A) (pd' : Pds) (vc : List Prop), c.yf i args rd m pd = some (b, m', pd', vc) → (∀ p ∈ vc, p) →
    ∀ (X : Nat → Prop) (W0 W : World) (β : Adr) (vs : List Value), MRel c X W0 β m W → Top β m → YAll X W0 β c.ys pd W → TsIs β args vs → ∀ l, β i = some l →
      ∃ rec : Loop, W.heap[l]? = some (.loop rec) ∧ vs.length = rec.params.size ∧ ∀ (r : Option Nat) (n : Nat),
        RoundIn (Fr r) n c.P l rec.fn ((rec.params.zip vs.toArray).foldl (fun t (p, v) => t.setIfInBounds p v) rec.tmps) rec.assign rec.body W (fun e W' => e = .returned (.bool b) ∧
          ∃ β', Adr.le β β' ∧ MRel c X W0 β' m' W' ∧ Top β' m' ∧ YAll X W0 β' c.ys pd' W' ∧ NX c β W W')

/-- The functions that are ranged over are run rightly. -/
def ItsOK (c : Cfg A) : Prop :=
  ∀ (g : FuncId) (ys : List (Ys A)) (yf : YF A) (args : List (TV A)) (rd : Nat) (m : Mem A) (pd : Pds) (m' : Mem A) (pd' : Pds) (vc : List Prop), c.it g ys yf args rd m pd = some (m', pd', vc) → (∀ p ∈ vc, p) →
    ∀ c1 : Cfg A, c1.P = c.P → c1.gl = c.gl → c1.old = c.old → c1.ys = ys → c1.yf = yf → YOK c1 → ∀ (X : Nat → Prop) (W0 W : World) (β : Adr) (vs : List Value), MRel c1 X W0 β m W → Top β m → YAll X W0 β ys pd W → TsIs β args vs →
      (∀ args W, (callFunc g args).run c.P W = .ok (.enter g args) W) ∧
      Calls c.P g vs.toArray W (fun e W' => (∃ v, e = .returned v) ∧ ∃ β', Adr.le β β' ∧ MRel c1 X W0 β' m' W' ∧ Top β' m' ∧ YAll X W0 β' ys pd' W')

/-- Calls of whatever kind are right. -/
structure CfgOK (c : Cfg A) : Prop where
  calls : CallsOK c
  ys : YOK c
  its : ItsOK c

theorem capsTV_is {β : Adr} : ∀ {cap : List (Nat × Nat)} {vs : List Value}, capsIs β cap vs → TsIs (A := A) β (capsTV cap) vs
  | [], _, h => h
  | (_, _) :: _, _, ⟨b, r, h1, h2, e⟩ => ⟨_, r, LIs.of_single ⟨b, h1, rfl⟩, capsTV_is h2, e⟩

theorem TsIs.append {β : Adr} : ∀ {l r : List (TV A)} {x y}, TsIs β l x → TsIs β r y → TsIs β (l ++ r) (x ++ y)
  | [], _, _, _, e, h => by subst e; exact h
  | _ :: _, _, _, _, ⟨v, r, h1, h2, e⟩, h => by subst e; exact ⟨v, _, h1, TsIs.append h2 h, rfl⟩

/-- One operation, whatever it is. -/
theorem exec1_sound {c : Cfg A} (hc : CfgOK c) {X : Nat → Prop} {W0 W : World} {β : Adr} {st st' : St A} {a : Act} {o : Oper} {r : Option Nat} {n : Nat}
    (hr : Rel c X W0 β st a W) (h : exec1 c st o = some st') (hvc : ∀ p ∈ st'.vc, p) :
    Yld r n c.P o a W (fun v W' => ∃ β', Adr.le β β' ∧ Rel c X W0 β' st' (a.put o.dst v) W') := by
  obtain ⟨ht, hm, htop, hd, hyy⟩ := hr
  have plain : ∀ (tv : TV A) (vc : List Prop), opV c st o.op = some (tv, vc) → st' = putT { st with vc := (decT c st.rd o.dst tv).2 ++ (vc ++ st.vc) } o.dst (decT c st.rd o.dst tv).1 →
      Yld r n c.P o a W (fun v W' => ∃ β', Adr.le β β' ∧ Rel c X W0 β' st' (a.put o.dst v) W') := by
    intro tv vc hv hst
    subst hst
    have hpv : ∀ (s : St A) d v, (putT s d v).vc = s.vc := by intro s d v; cases d <;> rfl
    have hmm : ∀ (s : St A) d v, (putT s d v).m = s.m := by intro s d v; cases d <;> rfl
    have hpp : ∀ (s : St A) d v, (putT s d v).pd = s.pd := by intro s d v; cases d <;> rfl
    refine (opV_sound hc.calls ht hm hv (fun p hp => hvc p (by rw [hpv]; exact List.mem_append_right _ (List.mem_append_left _ hp)))).mono ?_
    rintro v W' ⟨K, hK, h1, h2⟩
    have h3 := decT_is (c := c) (rd := st.rd) (d := o.dst) h1 (fun p hp => hvc p (by rw [hpv]; exact List.mem_append_left _ hp))
    have hle := Adr.le_know β K
    refine ⟨β.know K, hle, TRel.put (st := { st with vc := (decT c st.rd o.dst tv).2 ++ (vc ++ st.vc) }) (ht.mono hle) h3, ?_, ?_, by rw [put_defers]; exact hd.mono hle, by rw [hpp]; exact hyy.kept hle h2.nc⟩
    · rw [hmm]; exact hm.know h2 hK
    · rw [hmm]; exact htop
  have pm : ∀ (s : St A) d v, (putT s d v).m = s.m := by intro s d v; cases d <;> rfl
  have pp : ∀ (s : St A) d v, (putT s d v).pd = s.pd := by intro s d v; cases d <;> rfl
  have callS : ∀ (g : FuncId) (l : List (TV A)) (vs : List Value), (∀ d, o.op ≠ .defer d) → (∀ W, (execOp a.eval o).run c.P W = (callFunc g vs.toArray).run c.P W) → TsIs β l vs → callX c st o.dst g l = some st' →
      Yld r n c.P o a W (fun v W' => ∃ β', Adr.le β β' ∧ Rel c X W0 β' st' (a.put o.dst v) W') := by
    intro g l vs hdf e hargs h
    have hpv : ∀ (s : St A) d v, (putT s d v).vc = s.vc := by intro s d v; cases d <;> rfl
    unfold callX at h
    split at h
    · rename_i v vc' hcall
      obtain rfl := Option.some.inj h
      have hvc' : ∀ p ∈ vc', p := fun p hp => hvc p (by rw [hpv]; exact List.mem_append_right _ (List.mem_append_left _ hp))
      have fin : ∀ u W', (∃ K, Fresh W W' K ∧ v.Is (β.know K) u ∧ Keeps W W') → ∃ β', Adr.le β β' ∧ Rel c X W0 β' (putT { st with vc := (decT c st.rd o.dst v).2 ++ (vc' ++ st.vc) } o.dst (decT c st.rd o.dst v).1) (a.put o.dst u) W' := by
        rintro u W' ⟨K, hK, k1, k2⟩
        have h3 := decT_is (c := c) (rd := st.rd) (d := o.dst) k1 (fun p hp => hvc p (by rw [hpv]; exact List.mem_append_left _ hp))
        have hle := Adr.le_know β K
        refine ⟨β.know K, hle, TRel.put (st := { st with vc := (decT c st.rd o.dst v).2 ++ (vc' ++ st.vc) }) (ht.mono hle) h3, ?_, ?_, by rw [put_defers]; exact hd.mono hle, by rw [pp]; exact hyy.kept hle k2.nc⟩
        · rw [pm]; exact hm.know k2 hK
        · rw [pm]; exact htop
      rcases hc.calls g l st.m v none vc' hcall hvc' X W0 W β _ hm hargs with ⟨u, h1, h2⟩ | ⟨h1, h2⟩
      · exact yld_value hdf (by rw [e]; exact h1) (fin _ _ h2)
      · refine yld_enter hdf (by rw [e]; exact h1) (h2.mono ?_)
        rintro e W' ⟨u, rfl, hu⟩
        exact ⟨u, rfl, fin _ _ hu⟩
    · rename_i v m' vc' hcall
      obtain rfl := Option.some.inj h
      have hvc' : ∀ p ∈ vc', p := fun p hp => hvc p (by rw [hpv]; exact List.mem_append_right _ (List.mem_append_left _ hp))
      have fin : ∀ u W', (∃ β', Adr.le β β' ∧ v.Is β' u ∧ MRel c X W0 β' m' W' ∧ Top β' m' ∧ NC W W') →
          ∃ β', Adr.le β β' ∧ Rel c X W0 β' (putT { st with m := m', vc := (decT c st.rd o.dst v).2 ++ (vc' ++ st.vc) } o.dst (decT c st.rd o.dst v).1) (a.put o.dst u) W' := by
        rintro u W' ⟨β', k1, k2, k3, k4, k5⟩
        have h3 := decT_is (c := c) (rd := st.rd) (d := o.dst) k2 (fun p hp => hvc p (by rw [hpv]; exact List.mem_append_left _ hp))
        refine ⟨β', k1, ?_, ?_, ?_, by rw [put_defers]; exact hd.mono k1, by rw [pp]; exact hyy.kept k1 k5⟩
        · have ht' : TRel β' st.t a := ht.mono k1
          exact TRel.put (st := { st with m := m', vc := (decT c st.rd o.dst v).2 ++ (vc' ++ st.vc) }) ht' h3
        · rw [pm]; exact k3
        · rw [pm]; exact k4
      rcases (hc.calls g l st.m v (some m') vc' hcall hvc' X W0 W β _ hm hargs) htop with ⟨u, h1, h2⟩ | ⟨h1, h2⟩
      · exact yld_value hdf (by rw [e]; exact h1) (fin _ _ h2)
      · refine yld_enter hdf (by rw [e]; exact h1) (h2.mono ?_)
        rintro e W' ⟨u, rfl, hu⟩
        exact ⟨u, rfl, fin _ _ hu⟩
    · cases h
  cases hop : o.op with
  | alloc t =>
    unfold exec1 at h
    rw [hop] at h
    simp only at h
    split at h
    · rename_i cells hz
      obtain rfl := Option.some.inj h
      obtain ⟨z, hz1, hz2⟩ := run_zeroT (P := c.P) (w := W) (β := β) hz
      refine yld_value (v := .pointer (some ⟨W.heap.size, 0, none⟩)) (W' := W.alloc (.cells z.cells t)) (by simp [hop]) ?_ ?_
      · simp [execOp, hop, Instr.alloc, hz1, newVar, newRow]
      · have hk := (htop st.m.length (Nat.le_refl _)).1
        have h1 := hm.alloc (t := t) (m' := st.m ++ [some ⟨cells, t, false⟩]) hk hz2 append_cases
        refine ⟨β.put st.m.length W.heap.size, Adr.le_put hk, ?_, ?_, ?_, by rw [put_defers]; exact hd.mono (Adr.le_put hk), by rw [pp]; exact hyy.kept (Adr.le_put hk) (Keeps.alloc W _).nc⟩
        · have ht' : TRel (β.put st.m.length W.heap.size) st.t a := ht.mono (Adr.le_put hk)
          exact TRel.put (st := { st with m := st.m ++ [some ⟨cells, t, false⟩] }) ht' (LIs.of_single ⟨W.heap.size, by simp [Adr.put_at], rfl⟩)
        · rw [pm]; simpa using h1
        · rw [pm]; exact htop.append
    · cases h
  | box t x =>
    unfold exec1 at h
    rw [hop] at h
    simp only at h
    split at h
    · rename_i xv hx
      split at h
      · rename_i cells hcl
        obtain rfl := Option.some.inj h
        have hz2 := cellsT_is (evO_is ht hm hx) hcl
        refine yld_value (v := .pointer (some ⟨W.heap.size, 0, none⟩)) (W' := W.alloc (.cells (a.eval x).cells t)) (by simp [hop]) ?_ ?_
        · simp [execOp, hop, Instr.box, newVar, newRow]
        · have hk := (htop st.m.length (Nat.le_refl _)).1
          have h1 := hm.alloc (t := t) (m' := st.m ++ [some ⟨cells, t, false⟩]) hk hz2 append_cases
          refine ⟨β.put st.m.length W.heap.size, Adr.le_put hk, ?_, ?_, ?_, by rw [put_defers]; exact hd.mono (Adr.le_put hk), by rw [pp]; exact hyy.kept (Adr.le_put hk) (Keeps.alloc W _).nc⟩
          · have ht' : TRel (β.put st.m.length W.heap.size) st.t a := ht.mono (Adr.le_put hk)
            exact TRel.put (st := { st with m := st.m ++ [some ⟨cells, t, false⟩] }) ht' (LIs.of_single ⟨W.heap.size, by simp [Adr.put_at], rfl⟩)
          · rw [pm]; simpa using h1
          · rw [pm]; exact htop.append
      · cases h
    · cases h
  | buildSlice t len parts =>
    unfold exec1 at h
    rw [hop] at h
    simp only at h
    split at h
    · rename_i e hu
      split at h
      · rename_i sz z hs hz
        split at h
        · rename_i hle
          split at h
          · rename_i hzl
            split at h
            · rename_i cells hf
              obtain rfl := Option.some.inj h
              obtain ⟨zv, hz1, hz2⟩ := run_zeroT (P := c.P) (w := W) (β := β) hz
              obtain ⟨us, hu1, hu2⟩ := fillV_run ht hm hf (hz2.replicate len)
              have hk := (htop st.m.length (Nat.le_refl _)).1
              refine yld_value (v := .slice (some ⟨W.heap.size, 0, none⟩) len len) (W' := W.alloc (.cells us.toArray e)) (by simp [hop]) ?_ ?_
              · have hzv : zv.cells.toList.length = sz + 1 := by
                  have hone : lsize z = z.length := by
                    unfold zeroT at hz
                    split at hz
                    · split at hz
                      · split at hz
                        · rename_i v _ _
                          simp at hz; subst hz
                          generalize v.cells.toList = l
                          induction l with
                          | nil => rfl
                          | cons x l ih => simp [lsize, SV.size, ih]; omega
                        · cases hz
                      · cases hz
                    · cases hz
                  rw [hz2.len, hone, hzl]
                have e3 : (parts.map fun x => (x.1, a.eval x.2)).toList = parts.toList.map fun x => (x.1, a.eval x.2) := by simp
                have e4 := flat_cells hzv len
                have e5 : (Array.range (len * (sz + 1))).map (fun i => zv.cells[i % zv.cells.size]!) = ((List.replicate len zv.cells.toList).flatten).toArray := by
                  apply Array.toList_inj.1
                  rw [← e4]
                have hno : ¬ (len * (sz + 1) > 2 ^ 24) := by omega
                simp only [execOp, hop, Instr.buildSlice, Sem.run_bind, run_underlying hu, Result.andThen_ok, run_sizeT hs, Sem.run_ite, if_neg hno]
                by_cases h0 : len * (sz + 1) = 0
                · simp only [h0, if_true, Sem.run_pure, Result.andThen_ok]
                  have hl0 : len = 0 := by
                    rcases Nat.mul_eq_zero.1 h0 with h0 | h0
                    · exact h0
                    · omega
                  subst hl0
                  simp only [List.replicate_zero, List.flatten_nil] at hu1
                  rw [e3]
                  have e6 : ((Array.range 0).map (fun i => (#[] : Array Value)[i % (#[] : Array Value).size]!)) = #[] := by simp
                  rw [e6, hu1]
                  simp [newRow]
                · simp only [h0, if_false, hz1, Result.andThen_ok, Sem.run_pure]
                  rw [e5, e3, hu1]
                  simp [newRow]
              · have h1 := hm.alloc (t := e) (m' := st.m ++ [some ⟨cells, e, false⟩]) hk hu2 append_cases
                refine ⟨β.put st.m.length W.heap.size, Adr.le_put hk, ?_, ?_, ?_, by rw [put_defers]; exact hd.mono (Adr.le_put hk), by rw [pp]; exact hyy.kept (Adr.le_put hk) (Keeps.alloc W _).nc⟩
                · have ht' : TRel (β.put st.m.length W.heap.size) st.t a := ht.mono (Adr.le_put hk)
                  exact TRel.put (st := { st with m := st.m ++ [some ⟨cells, e, false⟩] }) ht' (LIs.of_single ⟨W.heap.size, by simp [Adr.put_at], rfl⟩)
                · rw [pm]; exact h1
                · rw [pm]; exact htop.append
            · cases h
          · cases h
        · cases h
      · cases h
    · cases h
  | store t x y =>
    unfold exec1 at h
    rw [hop] at h
    simp only at h
    split at h
    · rename_i xv yv hx hy
      split at h
      · rename_i m' hs
        obtain rfl := Option.some.inj h
        obtain ⟨W', h1, h2, h3, h4⟩ := storeV_run hm hs (evO_is ht hm hx) (evO_is ht hm hy)
        refine yld_skip (W' := W') (by simp [hop]) ?_ ?_
        · simp [execOp, hop, h1]
        · refine ⟨β, Adr.le_refl β, ?_, ?_, ?_, by rw [put_defers]; exact hd, by rw [pp]; exact hyy.kept (Adr.le_refl β) h4⟩
          · exact TRel.put (st := { st with m := m' }) ht (undefT_is β)
          · rw [pm]; exact h2
          · rw [pm]; exact h3 htop
      · cases h
    · cases h
  | call cl =>
    obtain ⟨callee, args, ats⟩ := cl
    cases callee with
    | value f =>
      cases f with
      | func g =>
        unfold exec1 at h
        rw [hop] at h
        simp only at h
        split at h
        · rename_i l hl
          have hargs := evL_is ht hm hl
          have e : ∀ W, (execOp a.eval o).run c.P W = (callFunc g (args.toList.map a.eval).toArray).run c.P W := by
            intro W
            have e : args.map a.eval = (args.toList.map a.eval).toArray := Array.toList_inj.1 (by simp)
            rw [← e]
            simp [execOp, hop, resolve, Deferred.ofValue, Act.eval, invoke]
          exact callS g l _ (by simp [hop]) e hargs h
        · cases h
      | tmp x =>
        unfold exec1 at h
        rw [hop] at h
        simp only at h
        split at h
        · rename_i i l hx hl
          have hargs := evL_is ht hm hl
          obtain ⟨lb, hb, ev⟩ := LIs.single (evO_is ht hm (x := .tmp x) hx : LIs β _ [a.eval (.tmp x)])
          simp at ev
          split at h
          · rename_i b m' pd' vc' hyf
            obtain rfl := Option.some.inj h
            have hpv : ∀ (s : St A) d v, (putT s d v).vc = s.vc := by intro s d v; cases d <;> rfl
            obtain ⟨rec, h1, h2, h3⟩ := hc.ys i l st.rd st.m st.pd b m' pd' vc' hyf (fun p hp => hvc p (by rw [hpv]; exact List.mem_append_left _ hp)) X W0 W β _ hm htop hyy hargs lb hb
            have e : args.map a.eval = (args.toList.map a.eval).toArray := Array.toList_inj.1 (by simp)
            intro next Q hn
            refine ⟨fun _ _ => trivial, ?_⟩
            rw [Oper.semAt_eq _ _ _ (by simp [hop])]
            have hrun : (execOp a.eval o).run c.P W = .ok (.round lb rec.fn ((rec.params.zip (args.toList.map a.eval).toArray).foldl (fun t (p, v) => t.setIfInBounds p v) rec.tmps) rec.assign rec.body) W := by
              rw [← run_yield (P := c.P) h1 (by simpa using h2), ← e]
              simp [execOp, hop, resolve, Deferred.ofValue, ev, invoke]
            rw [hrun, Oper.uponIn_round]
            refine ⟨fun hx => by simp [Fr, Fence.wide] at hx, (h3 r (n - 1)).mono ?_⟩
            rintro e' W' ⟨rfl, β', k1, k2, k3, k4, _⟩
            refine hn _ W' ⟨β', k1, ?_, ?_, ?_, by rw [put_defers]; exact hd.mono k1, ?_⟩
            · exact TRel.put (st := { st with m := m', pd := pd', vc := vc' ++ st.vc }) (ht.mono k1) (LIs.of_single ⟨rfl, rfl⟩)
            · rw [pm]; exact k2
            · rw [pm]; exact k3
            · rw [pp]; exact k4
          · cases h
        · rename_i g cap l hx hl
          have hargs := evL_is ht hm hl
          obtain ⟨cs, hcs, ev⟩ := LIs.single (evO_is ht hm (x := .tmp x) hx : LIs β _ [a.eval (.tmp x)])
          simp at ev
          have e : ∀ W, (execOp a.eval o).run c.P W = (callFunc g (args.toList.map a.eval ++ cs).toArray).run c.P W := by
            intro W
            have e : args.map a.eval ++ cs.toArray = (args.toList.map a.eval ++ cs).toArray := Array.toList_inj.1 (by simp)
            rw [← e]
            simp [execOp, hop, resolve, Deferred.ofValue, ev, invoke]
          exact callS g _ _ (by simp [hop]) e (hargs.append (capsTV_is hcs)) h
        · cases h
      | _ =>
        unfold exec1 at h
        rw [hop] at h
        simp only [opV] at h
        cases h
    | builtin b =>
      unfold exec1 at h
      rw [hop] at h
      simp only at h
      split at h
      · rename_i v vc hv
        obtain rfl := Option.some.inj h
        exact plain v vc (by rw [hop]; exact hv) rfl
      · cases h
    | invoke rr mm =>
      unfold exec1 at h
      rw [hop] at h
      simp only [opV] at h
      cases h
  | _ =>
    unfold exec1 at h
    rw [hop] at h
    simp only at h
    split at h
    · rename_i v vc hv
      obtain rfl := Option.some.inj h
      exact plain v vc (by rw [hop]; exact hv) rfl
    · cases h

end
end Go.Sh

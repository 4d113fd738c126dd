/- Functions that turn a block of the caller's: contracts, out of runs; rows of them. -/
import Derived.Test.YtaloefkkllebeaaDoorSa1
set_option linter.unusedVariables false
set_option linter.unusedSimpArgs false
set_option linter.unusedSectionVars false
namespace Go.Sh
/-- The world without a block's cells. -/
def gone (W : World) (b : Nat) : World := { W with heap := W.heap.setIfInBounds b (.deferred (some [])) }
theorem gone_size (W : World) (b : Nat) : (gone W b).heap.size = W.heap.size := by simp [gone]
theorem gone_at (W : World) {b k : Nat} (h : k ≠ b) : (gone W b).heap[k]? = W.heap[k]? := by
  simp only [gone, Array.getElem?_setIfInBounds]
  rw [if_neg (fun e => h e.symm)]
theorem gone_cell {W : World} {b : Nat} {a : Addr} {v : Value} (h : (gone W b).cell? a = some v) : a.block ≠ b ∧ W.cell? a = some v := by
  have hne : a.block ≠ b := by
    intro e
    obtain ⟨cs, t, fz, h1⟩ := cell?_heap h
    rw [e] at h1
    simp only [gone, Array.getElem?_setIfInBounds] at h1
    split at h1
    · split at h1
      · cases h1
      · cases h1
    · rename_i hh; exact hh trivial
  exact ⟨hne, cell?_same h (gone_at W hne).symm⟩
variable {A : Type} [Atom A]
/-- Function g turns the block that its first arguments point into (at the offsets os), of data Δ, and yields a result. -/
def Turns (A : Type) [Atom A] {Δ Γ R : Type} [Rep A Δ] [Args A Γ] [Res A R] (P : Program) (g : FuncId) (ty : TypeId) (os : List Nat) (f : Δ → Γ → Δ × R) : Prop :=
  ∀ (gh : Args.G A Γ) (d : Δ) (x : Γ) (W : World) (b : Nat), W.heap[b]? = some (.cells (Rep.vals A d).toArray ty (0, 0)) → Args.good (gone W b) gh x →
    CallSem P g (os.map (fun o => Value.pointer (some ⟨b, o, none⟩)) ++ Args.vals gh x) W (fun v W' => v = Res.val A (f d x).2 ∧ W'.heap[b]? = some (.cells (Rep.vals A (f d x).1).toArray ty (0, 0)) ∧ Ext (fun k => k = b) W W' ∧ NC W W')
/-- The arguments behind the pointers into block i. -/
def ptrsOf (i : Nat) : List Nat → List (TV A) → Option (List (TV A))
  | [], l => some l
  | o :: os, .val false [.p j o'] :: l => if j = i ∧ o' = o then ptrsOf i os l else none
  | _, _ => none
def turnRow {Δ Γ R : Type} [Rep A Δ] [Args A Γ] [Res A R] (g : FuncId) (ty : TypeId) (os : List Nat) (f : Δ → Γ → Δ × R) : Row A where
  g := g
  e := fun old args m =>
    match args with
    | .val false [.p i o] :: _ =>
      match ptrsOf i os args, nth m i with
      | some rest, some (some blk) =>
        if blk.ro = false ∧ blk.ty = ty then
          match Rep.parse (T := Δ) blk.cells, Args.parse (Γ := Γ) old (setN m i none) rest with
          | some d, some (x, vc) => some (Res.tv (f d x).2, some (setN m i (some ⟨Rep.shw (f d x).1, ty, false⟩)), vc)
          | _, _ => none
        else none
      | _, _ => none
    | _ => none
theorem ptrsOf_is {β : Adr} {i b : Nat} (hb : β i = some b) : ∀ {os : List Nat} {args rest : List (TV A)} {vs : List Value}, ptrsOf i os args = some rest → TsIs β args vs → ∃ vs', vs = os.map (fun o => Value.pointer (some ⟨b, o, none⟩)) ++ vs' ∧ TsIs β rest vs'
  | [], args, rest, vs, h, e => by
    simp only [ptrsOf] at h
    obtain rfl := Option.some.inj h
    exact ⟨vs, rfl, e⟩
  | o :: os, [], _, _, h, _ => by cases h
  | o :: os, t :: l, rest, vs, h, e => by
    unfold ptrsOf at h
    split at h
    · rename_i hh; cases hh
    · rename_i heq hh
      obtain ⟨rfl, rfl⟩ := List.cons.inj hh
      injection heq with h3 h4
      subst h3 h4
      split at h
      · rename_i hj
        obtain ⟨rfl, rfl⟩ := hj
        obtain ⟨v, r, k1, k2, rfl⟩ := e
        obtain ⟨b', kb, kv⟩ := LIs.single (k1 : LIs β _ [v])
        have : b' = b := Option.some.inj (kb.symm.trans hb)
        subst this
        simp at kv; subst kv
        obtain ⟨vs', g1, g2⟩ := ptrsOf_is hb h k2
        exact ⟨vs', by rw [g1]; rfl, g2⟩
      · cases h
    · cases h
/-- Without block i. -/
theorem MRel.gone {c : Cfg A} {X : Nat → Prop} {W0 W : World} {β : Adr} {m : Mem A} (h : MRel c X W0 β m W) {i b : Nat} {blk : Blk A} (hi : nth m i = some (some blk)) (hb : β i = some b) (hro : blk.ro = false) :
    MRel c X W0 β (setN m i none) (Sh.gone W b) := by
  have hpl := h.plain hi hb
  obtain ⟨b', us, fz, g1, g2, g3, g4⟩ := h.mem' hi hb
  obtain rfl : b' = b := Option.some.inj (g1.symm.trans hb)
  obtain ⟨_, gx⟩ := g4 hro
  have entry : ∀ {j blk'}, nth (setN m i none) j = some (some blk') → i ≠ j ∧ nth m j = some (some blk') := by
    intro j blk' hj
    rw [nth_setN] at hj
    split at hj
    · split at hj <;> cases hj
    · rename_i e; exact ⟨e, hj⟩
  have hb0 : ∀ a : Addr, a.block = b' → wra β m i a := fun a e => .inl ⟨blk, hi, hpl, hro, by rw [e]; exact hb⟩
  have vin : ∀ {j b}, vecIn β (setN m i none) j b → vecIn β m j b := by
    rintro j b ⟨blk', v, n, l, cap, k1, k2, k3⟩
    exact ⟨blk', v, n, l, cap, (entry k1).2, k2, k3⟩
  refine ⟨fun j blk' hj hnv => ?_, fun j j' bj bj' b l1 l2 => h.inj j j' bj bj' b (entry l1).2 (entry l2).2, fun j b hj => by rw [gone_size]; exact h.dom j b hj,
    ⟨h.ext.os, h.ext.tape, h.ext.output, by rw [gone_size]; exact h.ext.size, fun k hk hx => ?_⟩, h.glob, h.old, fun k hk => ?_, fun a v hkn => ?_, fun j blk' v n l hj hvec => ?_, fun j b hvj j2 => ?_⟩
  · obtain ⟨hne, hj'⟩ := entry hj
    obtain ⟨b2, us2, fz2, k1, k2, k3, k4⟩ := h.mem j blk' hj' hnv
    have : b2 ≠ b' := fun e => hne (h.inj i j blk blk' b' hi hj' hb (by rw [k1, e]))
    exact ⟨b2, us2, fz2, k1, k2, by rw [gone_at W this]; exact k3, k4⟩
  · have : k ≠ b' := fun e => by subst e; rcases gx with gx | gx; · omega
                                 · exact hx gx
    rw [gone_at W this]
    exact h.ext.block k hk hx
  · obtain ⟨k1, k2⟩ := h.nc k hk
    have : k ≠ b' := fun e => by rw [e, g3] at k1; cases k1
    exact ⟨by rw [gone_at W this]; exact k1, k2⟩
  · obtain ⟨k1, k2, k3⟩ := h.kn a v hkn
    have : a.block ≠ b' := fun e => k3 i (hb0 a e)
    refine ⟨cell?_same k1 (gone_at W this), k2, fun j hw => k3 j ?_⟩
    rcases hw with ⟨blk', w1, w2, w3, w4⟩ | ⟨blk', v1, n1, l1, cap1, w1, w2, w3⟩
    · exact .inl ⟨blk', (entry w1).2, w2, w3, w4⟩
    · exact .inr ⟨blk', v1, n1, l1, cap1, (entry w1).2, w2, w3⟩
  · obtain ⟨hne, hj'⟩ := entry hj
    refine (h.vec j blk' v n l hj' hvec).kept (fun _ _ _ h => h) (fun b cap hb2 => gone_at W (fun e => ?_))
    subst e
    exact (h.sep j b ⟨blk', v, n, l, cap, hj', hvec, hb2⟩ i).1 blk hi hb
  · obtain ⟨s1, s2⟩ := h.sep j b (vin hvj) j2
    exact ⟨fun blk2 h2 e => s1 blk2 (entry h2).2 e, fun hv2 => s2 (vin hv2)⟩
theorem Turns.row {P : Program} {Δ Γ R : Type} [Rep A Δ] [Args A Γ] [Res A R] {g : FuncId} {ty : TypeId} {os : List Nat} {f : Δ → Γ → Δ × R} (h : Turns A P g ty os f) : RowOK P (turnRow (A := A) g ty os f) := by
  intro c args m res mm vc _ he hvc X W0 W β vs _ hm hvs
  simp only [turnRow] at he
  split at he
  · rename_i i o tl
    split at he
    · rename_i rest blk hrest hi
      split at he
      · rename_i hrt
        obtain ⟨hro, hty⟩ := hrt
        split at he
        · rename_i d x vc' hd hx
          simp at he
          obtain ⟨rfl, rfl, rfl⟩ := he
          intro htop
          have hvs' := hvs
          obtain ⟨v0, r0, k1, k2, rfl⟩ := hvs'
          obtain ⟨b, hb, _⟩ := LIs.single (k1 : LIs β _ [v0])
          obtain ⟨vs', hv1, hv2⟩ := ptrsOf_is hb hrest hvs
          obtain ⟨b', us, fz, g1, g2, g3, g4⟩ := hm.mem' hi hb
          obtain rfl : b' = b := Option.some.inj (g1.symm.trans hb)
          obtain ⟨rfl, gx⟩ := g4 hro
          have hus := Rep.ok (A := A) hd g2
          rw [hus, hty] at g3
          obtain ⟨gh, hg, hvals⟩ := Args.ok hx hvc (hm.gone hi hb hro) hv2
          rw [hv1, hvals]
          refine (h gh d x W b' g3 hg).mono ?_
          rintro v W' ⟨rfl, hW', hext, hnc⟩
          refine ⟨β, Adr.le_refl β, Res.is β _, ?_, htop.setN, hnc⟩
          have hs1 : ∀ k, (W'.setRow b' (Rep.vals A d).toArray).heap[k]? = if k = b' then some (.cells (Rep.vals A d).toArray ty (0, 0)) else W'.heap[k]? := fun k => setRow_at W' b' k _ _ _ _ hW'
          have hk : Keeps W (W'.setRow b' (Rep.vals A d).toArray) := ⟨hext.os, hext.tape, hext.output, by rw [size_setRow]; exact hext.size, fun k hk _ => by
            rw [hs1]
            split
            · rename_i e; rw [e]; exact g3.symm
            · rename_i e; exact hext.block k hk e⟩
          have hm1 := hm.keeps hk
          have hm2 := hm1.setRow (us := Rep.vals A d) (cells := Rep.shw (f d x).1) (vs := Rep.vals A (f d x).1) hb hi hro (by rw [hs1, if_pos rfl, hty]) (Rep.is β _)
          have hW2 : (W'.setRow b' (Rep.vals A d).toArray).setRow b' (Rep.vals A (f d x).1).toArray = W' := by
            have hh : ((W'.setRow b' (Rep.vals A d).toArray).setRow b' (Rep.vals A (f d x).1).toArray).heap = W'.heap := by
              apply Array.ext_getElem?
              intro k
              rw [setRow_at _ b' k _ _ _ _ (by rw [hs1, if_pos rfl]), hs1]
              split
              · rename_i e; rw [e]; exact hW'.symm
              · rfl
            have e : ∀ (W : World) (u v : Array Value), (W.setRow b' u).setRow b' v = { W with heap := ((W.setRow b' u).setRow b' v).heap } := fun _ _ _ => rfl
            rw [e, hh]
          rw [hW2, hty] at hm2
          exact hm2
        · cases he
      · cases he
    · cases he
  · cases he
/-- What a run leaves in its first block. -/
def turned (Δ : Type) [Rep A Δ] (ty : TypeId) (m : Mem A) : Option Δ :=
  match nth m 0 with
  | some (some ⟨cells, t, false⟩) => if t = ty then Rep.parse cells else none
  | _ => none
theorem turns_of_runT {P : Program} {Δ Γ R : Type} [Rep A Δ] [Args A Γ] [Res A R] {g : FuncId} {fn : Func} {ty : TypeId} {os : List Nat} {f : Δ → Γ → Δ × R} (hf : P.funcs[g]? = some fn)
    (hn : (fn.name == "runtime.NumGoroutine") = false) (hb : fn.body.isNone = false) (fuel : Nat)
    (h : ∀ (gh : Args.G A Γ) (d : Δ) (x : Γ) (W : World), Args.good W gh x → ∃ (tbl : List (Row A)) (its : List (IRow A)), TblOK P tbl ∧ ITblOK P its ∧ ∃ orc lp y d' vc,
      (run (cfgW P tbl its orc W.cell? lp [] noYield) fuel fn (os.map (fun o => TV.val false [.p 0 o]) ++ Args.tvs gh x) [some ⟨Rep.shw d, ty, false⟩]).map (fun r => (Res.parse (A := A) (R := R) r.1, turned Δ ty r.2.1, r.2.2)) = some (some y, some d', vc) ∧ All vc ∧ (d', y) = f d x ∧
      ∀ body, fn.body = some body → LoopsFor P W.cell? [] lp body) : Turns A P g ty os f := by
  intro gh d x W b hW hg
  obtain ⟨tbl, its, ht, hi, orc, lp, y, d', vc, h1, h2, h3, h4⟩ := h gh d x (gone W b) hg
  refine .inr ⟨callFunc_enter hf hn hb _ W, ?_⟩
  cases hr : run (cfgW P tbl its orc (gone W b).cell? lp [] noYield) fuel fn (os.map (fun o => TV.val false [.p 0 o]) ++ Args.tvs gh x) [some ⟨Rep.shw d, ty, false⟩] with
  | none => rw [hr] at h1; cases h1
  | some z =>
    obtain ⟨res, m', vc'⟩ := z
    rw [hr] at h1
    simp only [Option.map_some, Option.some.injEq, Prod.mk.injEq] at h1
    obtain ⟨k1, k2, rfl⟩ := h1
    have hvec : (⟨Rep.shw d, ty, false⟩ : Blk A).vec = none := by
      unfold Blk.vec
      split
      · rename_i heq
        change Rep.shw d = _ at heq
        have := Rep.is Adr.nil (A := A) d
        rw [heq] at this
        obtain ⟨_, _, h1, _⟩ := this
        exact h1.elim
      · rfl
    have one : ∀ i blk, nth [some (⟨Rep.shw d, ty, false⟩ : Blk A)] i = some (some blk) → i = 0 ∧ blk = ⟨Rep.shw d, ty, false⟩ := by
      intro i blk hi
      cases i with
      | zero => simp [nth] at hi; exact ⟨rfl, hi.symm⟩
      | succ i => simp [nth] at hi
    have hm : MRel (cfgW P tbl its orc (gone W b).cell? lp [] noYield) (fun k => k = b) W (Adr.nil.put 0 b) [some ⟨Rep.shw d, ty, false⟩] W := by
      refine ⟨fun i blk hi _ => ?_, fun i j bi bj b' li lj _ _ => (by rw [(one i bi li).1, (one j bj lj).1]), fun i b' hi => ?_, Ext.refl _ _, fun g i hi => (by cases hi), fun a v e => ?_, fun k hk => hk.elim, fun a v hk => hk.elim, fun i blk v n l hi hv => ?_, fun i b' hv => ?_⟩
      · obtain ⟨rfl, rfl⟩ := one i blk hi
        exact ⟨b, Rep.vals A d, (0, 0), by rw [Adr.put_at]; simp, Rep.is _ d, hW, fun _ => ⟨rfl, .inr rfl⟩⟩
      · rw [Adr.put_at] at hi
        split at hi
        · obtain rfl := Option.some.inj hi
          exact (Array.getElem?_eq_some_iff.1 hW).1
        · cases hi
      · obtain ⟨q1, q2⟩ := gone_cell e
        exact ⟨q2, cell?_lt q2, q1⟩
      · obtain ⟨_, rfl⟩ := one i blk hi
        rw [hvec] at hv; cases hv
      · obtain ⟨blk, v, n, l, cap, q1, q2, _⟩ := hv
        obtain ⟨_, rfl⟩ := one i blk q1
        rw [hvec] at q2; cases q2
    have htop : Top (Adr.nil.put 0 b) [some (⟨Rep.shw d, ty, false⟩ : Blk A)] := fun i hi => ⟨by
      rw [Adr.put_at, if_neg (by simp at hi; omega)]; rfl, fun _ => rfl⟩
    have hargs : ∀ os : List Nat, TsIs (Adr.nil.put 0 b) (os.map (fun o => (TV.val false [.p 0 o] : TV A)) ++ Args.tvs gh x) (os.map (fun o => Value.pointer (some ⟨b, o, none⟩)) ++ Args.vals gh x) := by
      intro os
      induction os with
      | nil => exact Args.is _ hg
      | cons o os ih => exact ⟨_, _, LIs.of_single ⟨b, by rw [Adr.put_at]; simp, rfl⟩, ih, rfl⟩
    have := run_sound (cfgOK0 ht hi orc (gone W b).cell? lp) rfl (c := cfgW P tbl its orc (gone W b).cell? lp [] noYield) hf (fun body hbd => h4 body hbd _ rfl rfl rfl rfl rfl) hr h2.mem hm htop (hargs os)
    refine this.mono ?_
    rintro e W' ⟨v, rfl, β', hle, hv, hm', _, hnc⟩
    refine ⟨v, rfl, ?_, ?_, hm'.ext, hnc⟩
    · rw [Res.ok k1 hv, ← h3]
    · unfold turned at k2
      split at k2
      · rename_i cells t hnth
        split at k2
        · rename_i hty
          subst hty
          obtain ⟨b', us, fz, g1, g2, g3, g4⟩ := hm'.mem' hnth (hle.pl 0 b (by rw [Adr.put_at]; simp))
          obtain rfl : b' = b := Option.some.inj (g1.symm.trans (hle.pl 0 b (by rw [Adr.put_at]; simp)))
          obtain ⟨rfl, _⟩ := g4 rfl
          rw [g3, Rep.ok (A := A) k2 g2, ← h3]
        · cases k2
      · cases k2
/-- No result. -/
instance : Res A Unit where
  tv _ := .tup []
  val _ := .tuple #[]
  is β _ := ⟨[], rfl, rfl⟩
  only := by rintro β x v ⟨vs, h, rfl⟩; obtain rfl : vs = [] := h; rfl
  parse
    | .tup [] => some ()
    | _ => none
  ok := by
    intro β t x v h e
    split at h
    · obtain ⟨vs, h1, rfl⟩ := e
      obtain rfl : vs = [] := h1
      rfl
    · cases h
end Go.Sh

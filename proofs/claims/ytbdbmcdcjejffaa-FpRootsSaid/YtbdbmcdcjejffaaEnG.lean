/- A region that draws its order: the theorem. -/
import Derived.Test.YtbdbmcdcjejffaaEnF
set_option linter.unusedVariables false
set_option linter.unusedSimpArgs false
set_option linter.unusedSectionVars false
namespace Go.Sh
open Go.RowKit

/-! ### What the Bool over a region says -/

theorem dsts_mem : ∀ {l : List Oper} {k i : Nat} {o : Oper} {d : Nat}, l[i]? = some o → o.dst = some d → (d, k + i) ∈ dsts l k
  | [], _, _, _, _, h, _ => by simp at h
  | o :: l, k, 0, o', d, h, hd => by
    simp at h; subst h
    simp [dsts, hd]
  | o :: l, k, i + 1, o', d, h, hd => by
    simp at h
    have ih := dsts_mem (k := k + 1) h hd
    rw [show k + 1 + i = k + (i + 1) by omega] at ih
    unfold dsts
    split
    · exact List.mem_cons_of_mem _ ih
    · exact ih

theorem dsts_apart : ∀ {l : List Oper} {k i j : Nat} {oi oj : Oper} {d : Nat}, pairsApart (dsts l k) = true → l[i]? = some oi → l[j]? = some oj → oi.dst = some d → oj.dst = some d → i = j
  | [], _, _, _, _, _, _, _, h, _, _, _ => by simp at h
  | o :: l, k, 0, 0, _, _, _, _, _, _, _, _ => rfl
  | o :: l, k, 0, j + 1, oi, oj, d, h, h1, h2, h3, h4 => by
    simp at h1 h2
    subst h1
    simp only [dsts, h3, pairsApart, Bool.and_eq_true] at h
    have := List.all_eq_true.1 h.1 (d, k + 1 + j) (dsts_mem h2 h4)
    simp at this
  | o :: l, k, i + 1, 0, oi, oj, d, h, h1, h2, h3, h4 => by
    simp at h1 h2
    subst h2
    simp only [dsts, h4, pairsApart, Bool.and_eq_true] at h
    have := List.all_eq_true.1 h.1 (d, k + 1 + i) (dsts_mem h1 h3)
    simp at this
  | o :: l, k, i + 1, j + 1, oi, oj, d, h, h1, h2, h3, h4 => by
    simp at h1 h2
    have h' : pairsApart (dsts l (k + 1)) = true := by
      unfold dsts at h
      split at h
      · simp only [pairsApart, Bool.and_eq_true] at h; exact h.2
      · exact h
    rw [dsts_apart h' h1 h2 h3 h4]

theorem readsAll_at {ops : List Oper} {ds : List (Nat × Nat)} : ∀ {l : List Oper} {k i : Nat} {o : Oper}, readsAll ops ds l k = true → l[i]? = some o → readsOK ops ds (k + i) o = true
  | [], _, _, _, _, h => by simp at h
  | o :: l, k, 0, o', h, h1 => by
    simp at h1; subst h1
    simp only [readsAll, Bool.and_eq_true] at h
    exact h.1
  | o :: l, k, i + 1, o', h, h1 => by
    simp at h1
    simp only [readsAll, Bool.and_eq_true] at h
    have := readsAll_at h.2 h1
    rw [show k + 1 + i = k + (i + 1) by omega] at this
    exact this

theorem edgesBack_at : ∀ {l : List Oper} {k i : Nat} {o : Oper}, edgesBack l k = true → l[i]? = some o → ∀ e ∈ o.after, Region.binds .any e = true → e.on < k + i
  | [], _, _, _, _, h => by simp at h
  | o :: l, k, 0, o', h, h1 => by
    simp at h1; subst h1
    simp only [edgesBack, Bool.and_eq_true] at h
    intro e he hb
    have := List.all_eq_true.1 h.1 e (by simpa using he)
    simpa [hb] using this
  | o :: l, k, i + 1, o', h, h1 => by
    simp at h1
    simp only [edgesBack, Bool.and_eq_true] at h
    have := edgesBack_at h.2 h1
    rw [show k + 1 + i = k + (i + 1) by omega] at this
    exact this

structure DrawOK (L : List Oper) (n : Nat) : Prop where
  dst : ∀ (i : Nat) (o : Oper), i < n → L[i]? = some o → ∃ d, o.dst = some d
  apart : Apart L n
  reads : ∀ (i : Nat) (o : Oper) (x j : Nat) (oj : Oper), i < n → L[i]? = some o → x ∈ looks L o → j < n → L[j]? = some oj → oj.dst = some x → j < i ∧ waits o j = true
  back : ∀ (i : Nat) (o : Oper), L[i]? = some o → ∀ e ∈ o.after, Region.binds .any e = true → e.on < i
  sink : n < L.length → ∀ i, i < n → lateB L n i = false → ∃ (j : Nat) (o : Oper), i < j ∧ j ≤ n ∧ (j = n ∨ lateB L n j = false) ∧ L[j]? = some o ∧ waits o i = true
  chain : ∀ (t : Nat) (o : Oper), n < t → L[t]? = some o → waits o (t - 1) = true

theorem drawOK_spec {L : List Oper} {n : Nat} (hn : n ≤ L.length) (h : drawOK L n = true) : DrawOK L n := by
  unfold drawOK at h
  simp only [Bool.and_eq_true, Bool.or_eq_true, decide_eq_true_eq] at h
  obtain ⟨⟨⟨⟨h1, h2⟩, h3⟩, h4⟩, h5⟩ := h
  have ht : ∀ i o, i < n → L[i]? = some o → (L.take n)[i]? = some o := fun i o hi ho => by rw [List.getElem?_take, if_pos hi]; exact ho
  refine ⟨?_, ?_, ?_, ?_, ?_, ?_⟩
  · intro i o hi ho
    have := List.all_eq_true.1 h1 o (List.mem_of_getElem? (ht i o hi ho))
    exact Option.isSome_iff_exists.1 this
  · intro i j oi oj d hi hj h6 h7 h8 h9
    exact dsts_apart h2 (ht i oi hi h6) (ht j oj hj h7) h8 h9
  · intro i o x j oj hi ho hx hj hoj hd
    have := readsAll_at h3 (ht i o hi ho)
    rw [Nat.zero_add] at this
    have h6 := List.all_eq_true.1 (List.all_eq_true.1 this x hx) (x, 0 + j) (dsts_mem (ht j oj hj hoj) hd)
    simp only [bne_self_eq_false, Bool.false_or, Bool.and_eq_true, decide_eq_true_eq, Nat.zero_add] at h6
    exact h6
  · intro i o ho e he hb
    have := edgesBack_at h4 ho e he hb
    omega
  · intro hlt i hi hlate
    rcases h5 with h5 | h5
    · omega
    · simp only [sinks, Bool.and_eq_true] at h5
      have := List.all_eq_true.1 h5.1 i (List.mem_range.2 hi)
      rw [hlate, Bool.false_or] at this
      obtain ⟨k, hk, hw⟩ := List.any_eq_true.1 this
      have hk := List.mem_range.1 hk
      simp only [Bool.and_eq_true, Bool.or_eq_true, Bool.not_eq_true'] at hw
      split at hw
      · rename_i o ho
        rw [nth_eq] at ho
        refine ⟨i + 1 + k, o, by omega, by omega, ?_, ho, hw.2⟩
        rcases hw.1 with h6 | h6
        · exact .inl (Nat.eq_of_beq_eq_true h6)
        · exact .inr h6
      · cases hw.2
  · intro t o htn ho
    have htl := (List.getElem?_eq_some_iff.1 ho).1
    rcases h5 with h5 | h5
    · omega
    · simp only [sinks, Bool.and_eq_true] at h5
      have := List.all_eq_true.1 h5.2 (t - n - 1) (List.mem_range.2 (by omega))
      rw [show n + (t - n - 1) + 1 = t by omega, nth_eq, ho] at this
      simp only at this
      rwa [show n + (t - n - 1) = t - 1 by omega] at this

theorem firstWait_spec : ∀ (l : List Oper) (i k : Nat), k ≤ firstWait l i k ∧ (firstWait l i k < k + l.length → ∃ o, l[firstWait l i k - k]? = some o ∧ waits o i = true)
  | [], i, k => ⟨Nat.le_refl _, fun h => by simp [firstWait] at h⟩
  | o :: l, i, k => by
    unfold firstWait
    split
    · rename_i hw
      exact ⟨Nat.le_refl _, fun _ => ⟨o, by simp, hw⟩⟩
    · obtain ⟨h1, h2⟩ := firstWait_spec l i (k + 1)
      refine ⟨by omega, fun h => ?_⟩
      obtain ⟨o', h3, h4⟩ := h2 (by simp at h; omega)
      refine ⟨o', ?_, h4⟩
      rw [show firstWait l i (k + 1) - k = (firstWait l i (k + 1) - (k + 1)) + 1 by omega]
      simpa using h3

structure LateOK (L : List Oper) (n i : Nat) (o : Oper) : Prop where
  pure : pureOp o.op = true
  guard : o.guard = none
  ge : n < lateK L n i
  wait : lateK L n i < L.length → ∃ k, L[lateK L n i]? = some k ∧ waits k i = true
  mind : ∀ (m : Nat) (om : Oper), n ≤ m → m < lateK L n i → L[m]? = some om → simpleOp om.op = true ∧ om.guard = none ∧ (∀ dm, om.dst = some dm → (∀ d, o.dst = some d → d ≠ dm) ∧ ∀ x ∈ looks L o, x ≠ dm) ∧ (∀ d, o.dst = some d → ∀ x ∈ looks L om, x ≠ d)

theorem late_spec {L : List Oper} {n i : Nat} {o : Oper} (hn : n ≤ L.length) (ho : L[i]? = some o) (h : lateB L n i = true) : LateOK L n i o := by
  unfold lateB at h
  rw [nth_eq, ho] at h
  simp only [lateO, Bool.and_eq_true] at h
  obtain ⟨⟨h1, h2⟩, h3⟩ := h
  obtain ⟨k1, k2⟩ := firstWait_spec (L.drop (n + 1)) i (n + 1)
  have hK : lateK L n i = firstWait (L.drop (n + 1)) i (n + 1) := rfl
  refine ⟨h1, by simpa using h2, by omega, fun hlt => ?_, fun m om hm1 hm2 hom => ?_⟩
  · obtain ⟨o', j1, j2⟩ := k2 (by simp; omega)
    rw [List.getElem?_drop] at j1
    rw [hK]
    refine ⟨o', ?_, j2⟩
    rw [show n + 1 + (firstWait (L.drop (n + 1)) i (n + 1) - (n + 1)) = firstWait (L.drop (n + 1)) i (n + 1) by omega] at j1
    exact j1
  · have hmem : om ∈ (L.drop n).take (lateK L n i - n) := by
      refine List.mem_of_getElem? (i := m - n) ?_
      rw [List.getElem?_take, if_pos (by omega), List.getElem?_drop, show n + (m - n) = m by omega]
      exact hom
    have h4 := List.all_eq_true.1 h3 om hmem
    simp only [Bool.and_eq_true] at h4
    obtain ⟨⟨⟨g1, g2⟩, g3⟩, g4⟩ := h4
    refine ⟨g1, by simpa using g2, fun dm hdm => ?_, fun d hd x hx => ?_⟩
    · rw [hdm] at g3
      simp only [Bool.and_eq_true] at g3
      refine ⟨fun d hd => ?_, fun x hx => ?_⟩
      · have := g3.1
        rw [hd] at this
        simpa using this
      · simpa using List.all_eq_true.1 g3.2 x hx
    · rw [hd] at g4
      simpa using List.all_eq_true.1 g4 x hx

theorem waits_edge {o : Oper} {j : Nat} (h : waits o j = true) : ∃ e ∈ o.after, Region.binds .any e = true ∧ e.on = j := by
  obtain ⟨e, he, hb⟩ := List.any_eq_true.1 h
  simp only [Bool.and_eq_true, beq_iff_eq] at hb
  exact ⟨e, by simpa using he, hb.1, hb.2⟩

theorem getD_both {listed : Array Bool} {i : Nat} (h : listed.getD i true = false) : listed.getD i false = false := by
  rcases Nat.lt_or_ge i listed.size with h' | h'
  · simp [h'] at h ⊢; exact h
  · simp [Array.getElem?_eq_none h'] at h

theorem getD_in {listed : Array Bool} {i : Nat} (hi : i < listed.size) (h : listed.getD i false = false) : listed.getD i true = false := by
  simp [hi] at h ⊢; exact h

theorem getD_set (listed : Array Bool) (i j : Nat) (hi : i < listed.size) : (listed.setIfInBounds i true).getD j false = if i = j then true else listed.getD j false := by
  by_cases e : i = j
  · subst e; simp [hi]
  · simp [Array.getD_eq_getD_getElem?, e]

theorem ready_ne {ops : Array Oper} {listed : Array Bool} (hb : ∀ (i : Nat) (o : Oper), ops[i]? = some o → ∀ e ∈ o.after, Region.binds .any e = true → e.on < i) (hs : listed.size = ops.size) :
    ∀ i, i < ops.size → listed.getD i false = false → Region.ready .any ops listed ≠ [] := by
  intro i
  induction i using Nat.strongRecOn with
  | _ i ih =>
    intro hi hun
    by_cases hall : ∀ e ∈ ops[i].after, Region.binds .any e = true → listed.getD e.on false = true
    · have : i ∈ Region.ready .any ops listed := mem_ready.2 ⟨getD_in (by omega) hun, ops[i], by simp [hi], hall⟩
      intro h0
      rw [h0] at this
      cases this
    · simp only [Classical.not_forall] at hall
      obtain ⟨e, he, hbd, hl⟩ := hall
      have hlt := hb i ops[i] (by simp [hi]) e he hbd
      exact ih e.on hlt (by omega) (by simpa using hl)

section
variable {A : Type} [Atom A]

/-- Operation i of the tail (or of a region in its order), as it comes up. -/
theorem execOp_step {c : Cfg A} (hc : CfgOK c) {X : Nat → Prop} {W0 : World} {ops : Array Oper} {r : Option Nat} {n : Nat} {Q : Exit → Act → World → Prop} {K : Act → World → Prop} {i : Nat} {o : Oper} {rest : List Oper}
    {st st' : St A} {β : Adr} {a : Act} {W : World} (hi : ops[i]? = some o) (h : execOps c ops.toList (o :: rest) st = some st') (hvc : ∀ p ∈ st'.vc, p) (hr : Rel c X W0 β st a W)
    (hK : ∀ st1 β' a' W', Adr.le β β' → Rel c X W0 β' st1 a' W' → execOps c ops.toList rest st1 = some st' → K a' W') : wpOpIn (Fr r) n c.P ops Q i K a W := by
  unfold wpOpIn
  simp only [hi]
  simp only [execOps] at h
  split at h
  · rename_i hw
    split at h
    · rename_i st1 h1
      have hv1 : ∀ p ∈ st1.vc, p := fun p hp => hvc p (execOps_vc h p hp)
      have hwant := wants_is (ops := ops) hr.t hw
      rw [if_pos hwant]
      refine exec1_sound (r := r) (n := n) hc hr h1 hv1 K Q ?_
      rintro v W' ⟨β', hle, hr'⟩
      exact hK st1 β' _ _ hle hr' h
    · cases h
  · rename_i hw
    have hwant := wants_is (ops := ops) hr.t hw
    rw [if_neg (by rw [hwant]; simp)]
    refine ⟨fun _ _ => trivial, hK _ β _ _ (Adr.le_refl β) ⟨?_, ?_, ?_, by rw [put_defers]; exact hr.d, by rw [putT_pd]; exact hr.y⟩ h⟩
    · exact TRel.put hr.t (undefT_is β)
    · rw [putT_m]; exact hr.m
    · rw [putT_m]; exact hr.top
  · cases h

omit [Atom A] in
theorem ext_nth {α : Type} {l r : List α} (h : ∀ i, nth l i = nth r i) : l = r := by
  apply List.ext_getElem?
  intro i
  rw [← nth_eq, ← nth_eq, h i]

theorem exec1_shape {c : Cfg A} {S S' : St A} {o : Oper} (h : exec1 c S o = some S') : S'.t.length = S.t.length ∧ S'.rd = S.rd ∧ ∀ x, o.dst ≠ some x → nth S'.t x = nth S.t x := by
  have key : ∀ (s : St A) (v : TV A), s.t = S.t → s.rd = S.rd → (putT s o.dst v).t.length = S.t.length ∧ (putT s o.dst v).rd = S.rd ∧ ∀ x, o.dst ≠ some x → nth (putT s o.dst v).t x = nth S.t x := by
    intro s v e1 e2
    cases hd : o.dst with
    | none => exact ⟨by simp [putT, e1], e2, fun x _ => by simp [putT, e1]⟩
    | some d =>
      refine ⟨by simp [putT, setN_length, e1], e2, fun x hx => ?_⟩
      have : d ≠ x := fun e => hx (by rw [e])
      simp only [putT]
      rw [nth_setN, if_neg this, e1]
  have kx : ∀ {g : FuncId} {l : List (TV A)}, callX c S o.dst g l = some S' → S'.t.length = S.t.length ∧ S'.rd = S.rd ∧ ∀ x, o.dst ≠ some x → nth S'.t x = nth S.t x := by
    intro g l h
    unfold callX at h
    split at h
    · obtain rfl := Option.some.inj h; exact key _ _ rfl rfl
    · obtain rfl := Option.some.inj h; exact key _ _ rfl rfl
    · cases h
  unfold exec1 at h
  split at h <;> (try (repeat' split at h)) <;> first | (cases h; done) | exact kx h | (obtain rfl := Option.some.inj h; exact key _ _ rfl rfl)

omit [Atom A] in
theorem putT_nth (s : St A) (d : Option Tmp) (v : TV A) (x : Nat) : nth (putT s d v).t x = (match d with | some d => if d = x then (if d < s.t.length then some v else none) else nth s.t x | none => nth s.t x) := by
  cases d with
  | none => rfl
  | some d => exact nth_setN s.t d x v

/-- A simple operation, where what it looks at is the same. -/
theorem exec1_congr {c : Cfg A} {S S' : St A} {t : List (TV A)} {o : Oper} (hs : simpleOp o.op = true) (he : ∀ x ∈ o.op.operands, evO c { S with t := t } x = evO c S x) (h : exec1 c S o = some S') :
    ∃ v, S' = putT { S' with t := S.t } o.dst v ∧ exec1 c { S with t := t } o = some (putT { S' with t := t } o.dst v) := by
  have plain : ∀ (tv : TV A) (vc : List Prop), opV c S o.op = some (tv, vc) → pureOp o.op = true ∨ (∃ x, o.op = .assign x) → exec1 c S o = some (putT { S with vc := (decT c S.rd o.dst tv).2 ++ (vc ++ S.vc) } o.dst (decT c S.rd o.dst tv).1) →
      (∀ (S : St A) tv vc, opV c S o.op = some (tv, vc) → exec1 c S o = some (putT { S with vc := (decT c S.rd o.dst tv).2 ++ (vc ++ S.vc) } o.dst (decT c S.rd o.dst tv).1)) →
      ∃ v, S' = putT { S' with t := S.t } o.dst v ∧ exec1 c { S with t := t } o = some (putT { S' with t := t } o.dst v) := by
    intro tv vc hv _ h1 hall
    rw [h1] at h
    obtain rfl := Option.some.inj h
    have hv' : opV c { S with t := t } o.op = some (tv, vc) := by
      rw [opV_congr (st := { S with t := t }) (st' := S) (fun _ => rfl) he]; exact hv
    refine ⟨(decT c S.rd o.dst tv).1, ?_, ?_⟩
    · cases o.dst <;> rfl
    · rw [hall _ _ _ hv']
      cases o.dst <;> rfl
  cases hop : o.op with
  | store ty x y =>
    rw [hop] at he
    have ex := he x (by simp [Op.operands])
    have ey := he y (by simp [Op.operands])
    unfold exec1 at h ⊢
    rw [hop] at h ⊢
    simp only [ex, ey] at h ⊢
    split at h
    · split at h
      · obtain rfl := Option.some.inj h
        exact ⟨undefT, by cases o.dst <;> rfl, by cases o.dst <;> rfl⟩
      · cases h
    · cases h
  | assign x =>
    have red : ∀ (S : St A) tv vc, opV c S o.op = some (tv, vc) → exec1 c S o = some (putT { S with vc := (decT c S.rd o.dst tv).2 ++ (vc ++ S.vc) } o.dst (decT c S.rd o.dst tv).1) := by
      intro S tv vc hv; unfold exec1; rw [hop] at hv ⊢; simp only [hv]
    cases hv : opV c S o.op with
    | none => unfold exec1 at h; rw [hop] at h hv; simp only [hv] at h; cases h
    | some q => exact plain q.1 q.2 hv (.inr ⟨x, hop⟩) (red S _ _ hv) red
  | _ =>
    first
    | (rw [hop] at hs; simp [simpleOp, pureOp] at hs; done)
    | (have red : ∀ (S : St A) tv vc, opV c S o.op = some (tv, vc) → exec1 c S o = some (putT { S with vc := (decT c S.rd o.dst tv).2 ++ (vc ++ S.vc) } o.dst (decT c S.rd o.dst tv).1) := by
        intro S tv vc hv; unfold exec1; rw [hop] at hv ⊢; simp only [hv]
       cases hv : opV c S o.op with
       | none => unfold exec1 at h; rw [hop] at h hv; simp only [hv] at h; cases h
       | some q => exact plain q.1 q.2 hv (.inl (by rw [hop]; rfl)) (red S _ _ hv) red)

/-- The tail, while some of the head that look at no memory may still be to come. -/
theorem draw_late {c : Cfg A} (hc : CfgOK c) {X : Nat → Prop} {W0 : World} {ops : Array Oper} {r : Option Nat} {n0 n : Nat} {Q : Exit → Act → World → Prop} (hok : DrawOK ops.toList n0) (hn0 : n0 ≤ ops.size) {st' : St A} (hvc : ∀ p ∈ st'.vc, p)
    {t0 T : List (TV A)} {m0 New : Mem A} {rd : Nat} {VC : List Prop} (hVC : ∀ p ∈ VC, p)
    (lexR : ∀ x, (∀ j o, j < n0 → ops.toList[j]? = some o → o.dst ≠ some x) → nth T x = nth t0 x) (lexT : T.length = t0.length)
    (lex : ∀ i o, i < n0 → ops.toList[i]? = some o → ∃ d, o.dst = some d ∧ d < t0.length ∧ ∃ ti, ti.length = t0.length ∧
        (∀ j oj dj, j < i → ops.toList[j]? = some oj → oj.dst = some dj → nth ti dj = nth T dj) ∧
        (∀ x, (∀ j oj, j < i → ops.toList[j]? = some oj → oj.dst ≠ some x) → nth ti x = nth t0 x) ∧ HeadFact c ops.toList m0 rd T New VC i o d ti) :
    ∀ (f k : Nat) (U : List Nat) (listed : Array Bool) (S : St A) (t : List (TV A)) (β : Adr) (a : Act) (W : World), U.length + (ops.size - k) ≤ f → n0 ≤ k → k ≤ ops.size → listed.size = ops.size →
      (∀ j, j < n0 → listed.getD j false = false → j ∈ U ∧ lateB ops.toList n0 j = true ∧ (k < ops.size → k < lateK ops.toList n0 j ∨ True)) →
      (∀ j, n0 ≤ j → j < ops.size → listed.getD j false = decide (j < k)) →
      (∀ (j : Nat) (o : Oper), ops.toList[j]? = some o → listed.getD j false = true → ∀ e ∈ o.after, Region.binds .any e = true → listed.getD e.on false = true) →
      S.t.length = t0.length → t.length = t0.length → S.rd = rd → (∀ p ∈ S.vc, p) →
      (∀ x, (∀ j o, j < n0 → ops.toList[j]? = some o → listed.getD j false = false → o.dst ≠ some x) → nth t x = nth S.t x) →
      (∀ x, (∀ m om, n0 ≤ m → m < k → ops.toList[m]? = some om → om.dst ≠ some x) → nth S.t x = nth T x) →
      execOps c ops.toList (ops.toList.drop k) S = some st' → TRel β t a → MRel c X W0 β S.m W → Top β S.m → Defs (fun k => W0.heap.size ≤ k ∨ X k) β a.defers → YAll X W0 β c.ys S.pd W →
      (∀ β' a' W', Adr.le β β' → Rel c X W0 β' st' a' W' → Q .normal a' W') →
      wpAnyIn (Fr r) n c.P .any ops Q f listed a W := by
  have back : ∀ (i : Nat) (o : Oper), ops[i]? = some o → ∀ e ∈ o.after, Region.binds .any e = true → e.on < i := fun i o h => hok.back i o (by simpa using h)
  have hnl : n0 ≤ ops.toList.length := by simpa using hn0
  intro f
  induction f with
  | zero =>
    intro k U listed S t β a W hf hnk hk hs hU hl hclosed hS ht hrd hSv hst hSt h htr hm htop hd hy hQ
    have hu : U = [] := List.length_eq_zero_iff.1 (by omega)
    subst hu
    have hall : ∀ j, j < n0 → listed.getD j false = true := fun j hj => by
      cases e : listed.getD j false with
      | true => rfl
      | false => exact absurd (hU j hj e).1 (by simp)
    have hk' : k = ops.size := by omega
    subst hk'
    have et : t = S.t := ext_nth fun x => hst x (fun j o h1 _ h3 => by rw [hall j h1] at h3; cases h3)
    rw [List.drop_of_length_le (by simp)] at h
    simp [execOps] at h
    subst h; subst et
    refine ⟨?_, hQ β a W (Adr.le_refl β) ⟨htr, hm, htop, hd, hy⟩⟩
    apply List.eq_nil_iff_forall_not_mem.2
    intro j hj
    obtain ⟨h1, o, ho, _⟩ := mem_ready.1 hj
    have hjs : j < ops.size := (Array.getElem?_eq_some_iff.1 ho).1
    have h2 := getD_both h1
    rcases Nat.lt_or_ge j n0 with h3 | h3
    · rw [hall j h3] at h2; cases h2
    · rw [hl j h3 hjs] at h2; simp at h2; omega
  | succ f ih =>
    intro k U listed S t β a W hf hnk hk hs hU hl hclosed hS ht hrd hSv hst hSt h htr hm htop hd hy hQ
    by_cases hdone : (∀ j, j < n0 → listed.getD j false = true) ∧ k = ops.size
    · obtain ⟨hall, rfl⟩ := hdone
      have et : t = S.t := ext_nth fun x => hst x (fun j o h1 _ h3 => by rw [hall j h1] at h3; cases h3)
      rw [List.drop_of_length_le (by simp)] at h
      simp [execOps] at h
      subst h; subst et
      have hfull : Region.ready .any ops listed = [] := by
        apply List.eq_nil_iff_forall_not_mem.2
        intro j hj
        obtain ⟨h1, o, ho, _⟩ := mem_ready.1 hj
        have hjs : j < ops.size := (Array.getElem?_eq_some_iff.1 ho).1
        have h2 := getD_both h1
        rcases Nat.lt_or_ge j n0 with h3 | h3
        · rw [hall j h3] at h2; cases h2
        · rw [hl j h3 hjs] at h2; simp at h2; omega
      exact ⟨fun _ => hQ β a W (Adr.le_refl β) ⟨htr, hm, htop, hd, hy⟩, fun i hi => by rw [hfull] at hi; cases hi⟩
    · have hun0 : ∃ i0, i0 < ops.size ∧ listed.getD i0 false = false := by
        by_cases hall : ∀ j, j < n0 → listed.getD j false = true
        · have hks : k < ops.size := by
            rcases Nat.lt_or_ge k ops.size with h' | h'
            · exact h'
            · exact absurd ⟨hall, by omega⟩ hdone
          exact ⟨k, hks, by rw [hl k hnk hks]; simp⟩
        · simp only [Classical.not_forall] at hall
          obtain ⟨i0, h1, h2⟩ := hall
          exact ⟨i0, by omega, by simpa using h2⟩
      obtain ⟨i0, hi0, hi0u⟩ := hun0
      refine ⟨fun e => absurd e (ready_ne back hs i0 hi0 hi0u), fun i hi => ?_⟩
      obtain ⟨hun, o, ho, hedges⟩ := mem_ready.1 hi
      have his : i < ops.size := (Array.getElem?_eq_some_iff.1 ho).1
      have hoL : ops.toList[i]? = some o := by simpa using ho
      have hunf : listed.getD i false = false := getD_both hun
      have hset : ∀ j, (listed.setIfInBounds i true).getD j false = if i = j then true else listed.getD j false := fun j => getD_set _ _ _ (by omega)
      have hclosed' : ∀ (j : Nat) (oj : Oper), ops.toList[j]? = some oj → (listed.setIfInBounds i true).getD j false = true → ∀ e ∈ oj.after, Region.binds .any e = true → (listed.setIfInBounds i true).getD e.on false = true := by
        intro j oj hoj hlj e he hb
        rw [hset] at hlj ⊢
        split
        · rfl
        · split at hlj
          · rename_i hij
            subst hij
            have : oj = o := Option.some.inj (hoj.symm.trans hoL)
            subst this
            exact hedges e he hb
          · exact hclosed j oj hoj hlj e he hb
      -- one of the head that is not listed: the tail's next minds it not
      have ahead : ∀ j oj, j < n0 → ops.toList[j]? = some oj → listed.getD j false = false → LateOK ops.toList n0 j oj ∧ (k ≤ lateK ops.toList n0 j) ∧ (k < ops.size → ops.toList[k]? = ops.toList[i]? → i = k → k < lateK ops.toList n0 j) := by
        intro j oj hj hoj hlj
        have hlate := late_spec hnl hoj (hU j hj hlj).2.1
        have hge : k ≤ lateK ops.toList n0 j := by
          rcases Nat.lt_or_ge (lateK ops.toList n0 j) k with h' | h'
          · exfalso
            obtain ⟨ok, g1, g2⟩ := hlate.wait (by simp; omega)
            have hlk : listed.getD (lateK ops.toList n0 j) false = true := by
              rw [hl _ (by have := hlate.ge; omega) (by omega)]; simp [h']
            obtain ⟨e, he, hb, hon⟩ := waits_edge g2
            have := hclosed _ ok g1 hlk e he hb
            rw [hon, hlj] at this
            cases this
          · exact h'
        refine ⟨hlate, hge, fun hks _ hik => ?_⟩
        rcases Nat.lt_or_eq_of_le hge with h' | h'
        · exact h'
        · exfalso
          obtain ⟨ok, g1, g2⟩ := hlate.wait (by simp; omega)
          rw [← h', ← hik] at g1
          have : ok = o := Option.some.inj (g1.symm.trans hoL)
          subst this
          obtain ⟨e, he, hb, hon⟩ := waits_edge g2
          have := hedges e he hb
          rw [hon, hlj] at this
          cases this
      rcases Nat.lt_or_ge i n0 with hin | hge
      · -- a late one of the head
        obtain ⟨hlate, hkge, _⟩ := ahead i o hin hoL hunf
        obtain ⟨d, hdst, hdl, ti, e1, e2, e3, e4⟩ := lex i o hin hoL
        have hlookT : ∀ x ∈ looks ops.toList o, nth t x = nth ti x := by
          intro x hx
          have hTx : nth S.t x = nth T x := hSt x (fun m om h1 h2 h3 h4 => (((hlate.mind m om h1 (by omega) h3).2.2.1 x h4).2 x hx) rfl)
          have htx : nth t x = nth S.t x := hst x (fun j oj g1 g2 g3 g4 => by
            obtain ⟨_, g6⟩ := hok.reads i o x j oj hin hoL hx g1 g2 g4
            obtain ⟨e, he, hb, hon⟩ := waits_edge g6
            have := hedges e he hb
            rw [hon, g3] at this
            cases this)
          rw [htx, hTx]
          by_cases hw : ∃ j oj, j < n0 ∧ ops.toList[j]? = some oj ∧ oj.dst = some x
          · obtain ⟨j, oj, g1, g2, g3⟩ := hw
            obtain ⟨g4, _⟩ := hok.reads i o x j oj hin hoL hx g1 g2 g3
            rw [e2 j oj x g4 g2 g3]
          · have hx' : ∀ j o, j < n0 → ops.toList[j]? = some o → o.dst ≠ some x := fun j o h1 h2 h3 => hw ⟨j, o, h1, h2, h3⟩
            rw [lexR x hx', e3 x (fun j oj h1 h2 => hx' j oj (by omega) h2)]
        have hopd : ∀ y ∈ o.op.operands, evO c ⟨t, S.m, rd, [], []⟩ y = evO c ⟨ti, m0, rd, [], []⟩ y := by
          intro y hyo
          cases y with
          | tmp x =>
            refine hlookT x ?_
            unfold looks
            exact List.mem_append_left _ (List.mem_filterMap.2 ⟨.tmp x, by simpa using hyo, rfl⟩)
          | _ => rfl
        rcases e4 with ⟨ty, cells, hop, _⟩ | ⟨hna, b, hw, hT, hF⟩
        · have := hlate.pure; rw [hop] at this; simp [pureOp] at this
        · have hb : b = true := by
            have : wants ops.toList ⟨ti, m0, rd, [], []⟩ o = some true := by unfold wants; rw [hlate.guard]
            rw [this] at hw
            exact (Option.some.inj hw).symm
          subst hb
          obtain ⟨v, vc2, hv, hvc2, hvc3, hTd⟩ := hT rfl
          have hvt : opV c ⟨t, S.m, rd, [], []⟩ o.op = some (v, vc2) := by
            rw [opV_congr (st := ⟨t, S.m, rd, [], []⟩) (st' := ⟨ti, m0, rd, [], []⟩) (fun hp => by rw [hlate.pure] at hp; cases hp) hopd]; exact hv
          have hwant : Region.wanted o (yielded ops a.tmps) = true := by simp [Region.wanted, hlate.guard]
          unfold wpOpIn
          simp only [ho]
          rw [if_pos hwant]
          refine opV_sound (r := r) (n := n) hc.calls (st := ⟨t, S.m, rd, [], []⟩) htr hm hvt (fun p hp => hVC p (hvc2 p hp)) _ Q ?_
          rintro u W' ⟨K, hK, hu, hkp⟩
          have hle := Adr.le_know β K
          have hSd : nth S.t d = nth T d := hSt d (fun m om h1 h2 h3 h4 => (((hlate.mind m om h1 (by omega) h3).2.2.1 d h4).1 d hdst) rfl)
          refine ih k (U.erase i) _ S (setN t d (decT c rd (some d) v).1) (β.know K) _ W' ?_ hnk hk (by simpa using hs) ?_ ?_ hclosed' hS (by rw [setN_length]; exact ht) hrd hSv ?_ hSt h ?_ (hm.know hkp hK) htop (by rw [put_defers]; exact hd.mono hle) (hy.kept hle hkp.nc) (fun β' a' W' hle' hr' => hQ β' a' W' (Adr.le_trans hle hle') hr')
          · have := List.length_erase_of_mem (hU i hin hunf).1
            have h0 : 0 < U.length := List.length_pos_of_mem (hU i hin hunf).1
            omega
          · intro j hj hlj
            rw [hset] at hlj
            split at hlj
            · cases hlj
            · rename_i hne
              obtain ⟨g1, g2, g3⟩ := hU j hj hlj
              exact ⟨(List.mem_erase_of_ne (fun e => hne e.symm)).2 g1, g2, g3⟩
          · intro j hj hjs
            rw [hset, if_neg (by omega)]
            exact hl j hj hjs
          · intro x hx
            rw [nth_setN]
            by_cases hxd : d = x
            · subst hxd
              rw [if_pos rfl, if_pos (by rw [ht]; exact hdl), hSd, hTd]
            · rw [if_neg hxd]
              refine hst x (fun j oj g1 g2 g3 g4 => ?_)
              by_cases hij : i = j
              · subst hij
                have : oj = o := Option.some.inj (g2.symm.trans hoL)
                subst this
                exact hxd (Option.some.inj (hdst.symm.trans g4))
              · exact hx j oj g1 g2 (by rw [hset, if_neg hij]; exact g3) g4
          · rw [hdst]
            exact TRel.put (st := ⟨t, S.m, rd, [], []⟩) (d := some d) (htr.mono hle) (decT_is hu (fun p hp => hVC p (hvc3 p hp)))
      · -- the tail's next
        have hki : k ≤ i := by
          rcases Nat.lt_or_ge i k with h' | h'
          · rw [hl i hge his] at hunf; simp at hunf; omega
          · exact h'
        have hik : i = k := by
          rcases Nat.lt_or_ge k i with hlt | hge'
          · exfalso
            have hw := hok.chain i o (by omega) hoL
            obtain ⟨e, he, hb, hon⟩ := waits_edge hw
            have := hedges e he hb
            rw [hon, hl (i - 1) (by omega) (by omega)] at this
            simp at this
            omega
          · omega
        subst hik
        have hd2 : ops.toList.drop i = o :: ops.toList.drop (i + 1) := by
          rw [List.drop_eq_getElem_cons (by simpa using his)]
          congr 1
          obtain ⟨_, e⟩ := List.getElem?_eq_some_iff.1 hoL
          exact e
        rw [hd2] at h
        have hsl : ∀ β' a' W' (S1 : St A) (t1 : List (TV A)), Adr.le β β' → S1.t.length = t0.length → t1.length = t0.length → S1.rd = rd → (∀ p ∈ S1.vc, p) →
            (∀ x, (∀ j o, j < n0 → ops.toList[j]? = some o → listed.getD j false = false → o.dst ≠ some x) → nth t1 x = nth S1.t x) →
            (∀ x, (∀ m om, n0 ≤ m → m < i + 1 → ops.toList[m]? = some om → om.dst ≠ some x) → nth S1.t x = nth T x) →
            execOps c ops.toList (ops.toList.drop (i + 1)) S1 = some st' → TRel β' t1 a' → MRel c X W0 β' S1.m W' → Top β' S1.m → Defs (fun k => W0.heap.size ≤ k ∨ X k) β' a'.defers → YAll X W0 β' c.ys S1.pd W' →
            wpAnyIn (Fr r) n c.P .any ops Q f (listed.setIfInBounds i true) a' W' := by
          intro β' a' W' S1 t1 hle g1 g2 g3 g4 g5 g6 g7 g8 g9 g10 g11 g12
          refine ih (i + 1) U _ S1 t1 β' a' W' (by omega) (by omega) (by omega) (by simpa using hs) (fun j hj hlj => ?_) (fun j hj hjs => ?_) hclosed' g1 g2 g3 g4 (fun x hx => g5 x (fun j oj k1 k2 k3 => hx j oj k1 k2 (by rw [hset, if_neg (by omega)]; exact k3))) g6 g7 g8 g9 g10 g11 g12 (fun β'' a'' W'' hle' hr'' => hQ β'' a'' W'' (Adr.le_trans hle hle') hr'')
          · rw [hset, if_neg (by omega)] at hlj
            obtain ⟨g1, g2, _⟩ := hU j hj hlj
            exact ⟨g1, g2, fun _ => .inr trivial⟩
          · rw [hset]
            by_cases e : i = j
            · subst e; simp
            · rw [if_neg e, hl j hj hjs]
              congr 1
              simp only [eq_iff_iff]
              omega
        by_cases hall : ∀ j, j < n0 → listed.getD j false = true
        · -- none is left
          have et : t = S.t := ext_nth fun x => hst x (fun j o h1 _ h3 => by rw [hall j h1] at h3; cases h3)
          subst et
          have hlen : ∀ st1 : St A, (∃ rest, execOps c ops.toList (o :: rest) S = some st' ∧ True) → True := fun _ _ => trivial
          clear hlen
          simp only [execOps] at h
          have hRel : Rel c X W0 β S a W := ⟨htr, hm, htop, hd, hy⟩
          unfold wpOpIn
          simp only [ho]
          split at h
          · rename_i hw
            split at h
            · rename_i st1 h1
              have hv1 : ∀ p ∈ st1.vc, p := fun p hp => hvc p (execOps_vc h p hp)
              have hwant := wants_is (ops := ops) hRel.t hw
              rw [if_pos hwant]
              refine exec1_sound (r := r) (n := n) hc hRel h1 hv1 _ Q ?_
              rintro v W' ⟨β', hle, hr'⟩
              have hshape := exec1_shape h1
              refine hsl β' _ W' st1 st1.t hle (by rw [hshape.1]; exact hS) (by rw [hshape.1]; exact hS) (by rw [hshape.2.1]; exact hrd) hv1 (fun _ _ => rfl) (fun x hx => ?_) h hr'.t hr'.m hr'.top hr'.d hr'.y
              rw [hshape.2.2 x (fun e => hx i o (by omega) (by omega) hoL e)]
              exact hSt x (fun m om k1 k2 k3 => hx m om k1 (by omega) k3)
            · cases h
          · rename_i hw
            have hwant := wants_is (ops := ops) hRel.t hw
            rw [if_neg (by rw [hwant]; simp)]
            refine ⟨fun _ _ => trivial, hsl β _ _ (putT S o.dst undefT) (putT S o.dst undefT).t (Adr.le_refl β) ?_ ?_ (by rw [putT_rd]; exact hrd) (by rw [putT_vc]; exact hSv) (fun _ _ => rfl) (fun x hx => ?_) h (TRel.put htr (undefT_is β)) (by rw [putT_m]; exact hm) (by rw [putT_m]; exact htop) (by rw [put_defers]; exact hd) (by rw [putT_pd]; exact hy)⟩
            · cases o.dst <;> simp [putT, setN_length, hS]
            · cases o.dst <;> simp [putT, setN_length, hS]
            · have hne : o.dst ≠ some x := fun e => hx i o (by omega) (by omega) hoL e
              rw [putT_nth]
              have h2 := hSt x (fun m om k1 k2 k3 => hx m om k1 (by omega) k3)
              cases hdo : o.dst with
              | none => exact h2
              | some d =>
                rw [hdo] at hne
                have : d ≠ x := fun e => hne (by rw [e])
                simp only [this, if_false]
                exact h2
          · cases h
        · -- some are left: what comes up minds them not
          simp only [Classical.not_forall] at hall
          obtain ⟨j0, hj0, hlj0⟩ := hall
          have hlj0 : listed.getD j0 false = false := by simpa using hlj0
          obtain ⟨oj0, hoj0⟩ : ∃ oj, ops.toList[j0]? = some oj := ⟨_, List.getElem?_eq_getElem (by simp; omega)⟩
          obtain ⟨hlate0, _, hlt0⟩ := ahead j0 oj0 hj0 hoj0 hlj0
          obtain ⟨hsimple, hguard, _, _⟩ := hlate0.mind i o (by omega) (hlt0 his rfl rfl) hoL
          have hlook : ∀ x ∈ looks ops.toList o, nth t x = nth S.t x := by
            intro x hx
            refine hst x (fun j oj g1 g2 g3 g4 => ?_)
            obtain ⟨hlj, _, hltj⟩ := ahead j oj g1 g2 g3
            exact (hlj.mind i o (by omega) (hltj his rfl rfl) hoL).2.2.2 x g4 x hx rfl
          have hopd : ∀ y ∈ o.op.operands, evO c { S with t := t } y = evO c S y := by
            intro y hyo
            cases y with
            | tmp x =>
              refine hlook x ?_
              unfold looks
              exact List.mem_append_left _ (List.mem_filterMap.2 ⟨.tmp x, by simpa using hyo, rfl⟩)
            | _ => rfl
          have hwS : wants ops.toList S o = some true := by unfold wants; rw [hguard]
          simp only [execOps, hwS] at h
          split at h
          · rename_i st1 h1
            have hv1 : ∀ p ∈ st1.vc, p := fun p hp => hvc p (execOps_vc h p hp)
            obtain ⟨v, q1, q2⟩ := exec1_congr (t := t) hsimple hopd h1
            have hRel : Rel c X W0 β { S with t := t } a W := ⟨htr, hm, htop, hd, hy⟩
            have hwant : Region.wanted o (yielded ops a.tmps) = true := by simp [Region.wanted, hguard]
            unfold wpOpIn
            simp only [ho]
            rw [if_pos hwant]
            refine exec1_sound (r := r) (n := n) hc hRel q2 (fun p hp => hv1 p (by rw [putT_vc] at hp; exact hp)) _ Q ?_
            rintro u W' ⟨β', hle, hr'⟩
            have hshape := exec1_shape h1
            have hm' := hr'.m
            have htop' := hr'.top
            have hy' := hr'.y
            rw [putT_m] at hm' htop'
            rw [putT_pd] at hy'
            refine hsl β' _ W' st1 _ hle (by rw [hshape.1]; exact hS) (by cases o.dst <;> simp [putT, setN_length, ht]) (by rw [hshape.2.1]; exact hrd) hv1 (fun x hx => ?_) (fun x hx => ?_) h hr'.t hm' htop' hr'.d hy'
            · rw [q1]
              simp only [putT_nth]
              have hxx := hst x hx
              cases hdo : o.dst with
              | none => exact hxx
              | some d => simp only [ht, hS, hxx]
            · rw [hshape.2.2 x (fun e => hx i o (by omega) (by omega) hoL e)]
              exact hSt x (fun m om k1 k2 k3 => hx m om k1 (by omega) k3)
          · cases h

/-- In the midst of a head: what the frame and the memory are when the listed operations have come up. -/
structure Mid (c : Cfg A) (X : Nat → Prop) (W0 : World) (L : List Oper) (n : Nat) (t0 : List (TV A)) (m0 : Mem A) (T : List (TV A)) (New : Mem A) (pd : Pds) (β0 : Adr) (listed : Array Bool) (a : Act) (W : World)
    (t : List (TV A)) (m : Mem A) (β : Adr) : Prop where
  trel : TRel β t a
  dfs : Defs (fun k => W0.heap.size ≤ k ∨ X k) β a.defers
  mrel : MRel c X W0 β m W
  top : Top β m
  len : t.length = t0.length
  done : ∀ j o d, j < n → L[j]? = some o → o.dst = some d → listed.getD j false = true → nth t d = nth T d
  rest : ∀ x, (∀ j o, j < n → L[j]? = some o → listed.getD j false = true → o.dst ≠ some x) → nth t x = nth t0 x
  mlen : m.length = m0.length + cnt L n
  old : ∀ k, k < m0.length → nth m k = nth m0 k
  laid : ∀ j o, j < n → L[j]? = some o → isAlloc o.op = true → listed.getD j false = true → nth m (m0.length + cnt L j) = nth New (cnt L j)
  free : ∀ j o, j < n → L[j]? = some o → isAlloc o.op = true → listed.getD j false = false → nth m (m0.length + cnt L j) = some none ∧ β (m0.length + cnt L j) = none
  le : Adr.le β0 β
  y : YAll X W0 β c.ys pd W

theorem draw_head {c : Cfg A} (hc : CfgOK c) {X : Nat → Prop} {W0 : World} {ops : Array Oper} {r : Option Nat} {n0 n : Nat} {Q : Exit → Act → World → Prop} (hok : DrawOK ops.toList n0) (hn0 : n0 ≤ ops.size)
    {t0 T : List (TV A)} {m0 New : Mem A} {rd : Nat} {pd : Pds} {VC : List Prop} {st' : St A} {β0 : Adr} (hvc : ∀ p ∈ st'.vc, p) (hVC : ∀ p ∈ VC, p)
    (lexT : T.length = t0.length) (lexN : New.length = cnt ops.toList n0)
    (lexR : ∀ x, (∀ j o, j < n0 → ops.toList[j]? = some o → o.dst ≠ some x) → nth T x = nth t0 x)
    (lex : ∀ i o, i < n0 → ops.toList[i]? = some o → ∃ d, o.dst = some d ∧ d < t0.length ∧ ∃ ti, ti.length = t0.length ∧
        (∀ j oj dj, j < i → ops.toList[j]? = some oj → oj.dst = some dj → nth ti dj = nth T dj) ∧
        (∀ x, (∀ j oj, j < i → ops.toList[j]? = some oj → oj.dst ≠ some x) → nth ti x = nth t0 x) ∧ HeadFact c ops.toList m0 rd T New VC i o d ti)
    (h : execOps c ops.toList (ops.toList.drop n0) ⟨T, m0 ++ New, rd, VC, pd⟩ = some st')
    (hQ : ∀ β' a' W', Adr.le β0 β' → Rel c X W0 β' st' a' W' → Q .normal a' W') :
    ∀ (f : Nat) (U : List Nat) (listed : Array Bool) (a : Act) (W : World) (t : List (TV A)) (m : Mem A) (β : Adr), U.length + (ops.size - n0) ≤ f → listed.size = ops.size →
      (∀ j, j < n0 → listed.getD j false = false → j ∈ U) → (∀ j, n0 ≤ j → j < ops.size → listed.getD j false = false) →
      (∀ (j : Nat) (o : Oper), j < n0 → ops.toList[j]? = some o → listed.getD j false = true → ∀ e ∈ o.after, Region.binds .any e = true → listed.getD e.on false = true) →
      Mid c X W0 ops.toList n0 t0 m0 T New pd β0 listed a W t m β → wpAnyIn (Fr r) n c.P .any ops Q f listed a W := by
  have back : ∀ (i : Nat) (o : Oper), ops[i]? = some o → ∀ e ∈ o.after, Region.binds .any e = true → e.on < i := fun i o h => hok.back i o (by simpa using h)
  have hnl : n0 ≤ ops.toList.length := by simpa using hn0
  -- what may not be late has come up
  have go : ∀ (f : Nat) (U : List Nat) (listed : Array Bool) (a : Act) (W : World) (t : List (TV A)) (m : Mem A) (β : Adr), U.length + (ops.size - n0) ≤ f → listed.size = ops.size →
      (∀ j, j < n0 → listed.getD j false = false → j ∈ U) → (∀ j, n0 ≤ j → j < ops.size → listed.getD j false = false) →
      (∀ (j : Nat) (o : Oper), j < n0 → ops.toList[j]? = some o → listed.getD j false = true → ∀ e ∈ o.after, Region.binds .any e = true → listed.getD e.on false = true) →
      Mid c X W0 ops.toList n0 t0 m0 T New pd β0 listed a W t m β → (∀ j, j < n0 → listed.getD j false = false → lateB ops.toList n0 j = true) → wpAnyIn (Fr r) n c.P .any ops Q f listed a W := by
    intro f U listed a W t m β hf hs hU htail hclosed mid hneed
    have em : m = m0 ++ New := ext_nth fun k => by
      rcases Nat.lt_or_ge k m0.length with hk | hk
      · rw [mid.old k hk, nth_append_lt hk]
      · rcases Nat.lt_or_ge k (m0.length + cnt ops.toList n0) with hk2 | hk2
        · obtain ⟨j, o, h1, h2, h3, h4⟩ := cnt_surj (l := ops.toList) (n := n0) (s := k - m0.length) (by omega)
          have hlj : listed.getD j false = true := by
            cases e : listed.getD j false with
            | true => rfl
            | false =>
              have := (late_spec hnl h2 (hneed j h1 e)).pure
              cases hop : o.op <;> rw [hop] at this h3 <;> first | (simp [pureOp] at this; done) | (simp [isAlloc] at h3; done)
          have := mid.laid j o h1 h2 h3 hlj
          rw [h4, show m0.length + (k - m0.length) = k by omega] at this
          rw [this, nth_eq, nth_eq, List.getElem?_append_right hk]
        · have e1 := mid.mlen
          rw [nth_eq, nth_eq, List.getElem?_eq_none (by omega), List.getElem?_eq_none (by simp; omega)]
    subst em
    refine draw_late hc hok hn0 hvc hVC lexR lexT lex f n0 U listed ⟨T, m0 ++ New, rd, VC, pd⟩ t β a W hf (Nat.le_refl _) hn0 hs (fun j hj hlj => ⟨hU j hj hlj, hneed j hj hlj, fun _ => .inr trivial⟩) (fun j hj hjs => ?_) (fun j oj hoj hlj => ?_) lexT mid.len rfl hVC (fun x hx => ?_) (fun x _ => rfl) h mid.trel mid.mrel mid.top mid.dfs mid.y (fun β' a' W' hle hr => hQ β' a' W' (Adr.le_trans mid.le hle) hr)
    · rw [htail j hj hjs]; simp; omega
    · rcases Nat.lt_or_ge j n0 with hj | hj
      · exact hclosed j oj hj hoj hlj
      · have hjs : j < ops.size := by have := (List.getElem?_eq_some_iff.1 hoj).1; simpa using this
        rw [htail j hj hjs] at hlj
        cases hlj
    · by_cases hw : ∃ j o, j < n0 ∧ ops.toList[j]? = some o ∧ o.dst = some x
      · obtain ⟨j, o, h1, h2, h3⟩ := hw
        refine mid.done j o x h1 h2 h3 ?_
        cases e : listed.getD j false with
        | true => rfl
        | false => exact absurd h3 (hx j o h1 h2 e)
      · have hx' : ∀ j o, j < n0 → ops.toList[j]? = some o → o.dst ≠ some x := fun j o h1 h2 h3 => hw ⟨j, o, h1, h2, h3⟩
        rw [mid.rest x (fun j o h1 h2 _ => hx' j o h1 h2), lexR x hx']
  intro f
  induction f with
  | zero =>
    intro U listed a W t m β hf hs hU htail hclosed mid
    have hu : U = [] := List.length_eq_zero_iff.1 (by omega)
    exact go 0 U listed a W t m β hf hs hU htail hclosed mid (fun j hj e => absurd (hU j hj e) (by rw [hu]; simp))
  | succ f ih =>
    intro U listed a W t m β hf hs hU htail hclosed mid
    by_cases hall : ∀ j, j < n0 → listed.getD j false = false → lateB ops.toList n0 j = true
    · exact go (f + 1) U listed a W t m β hf hs hU htail hclosed mid hall
    · have hall' : ∃ i0, i0 < n0 ∧ listed.getD i0 false = false ∧ lateB ops.toList n0 i0 = false := by
        simp only [Classical.not_forall] at hall
        obtain ⟨i0, h1, h2, h3⟩ := hall
        exact ⟨i0, h1, h2, by simpa using h3⟩
      obtain ⟨i0, hi0, hun0, hneed0⟩ := hall'
      refine ⟨fun e => absurd e (ready_ne back hs i0 (by omega) hun0), fun i hi => ?_⟩
      obtain ⟨hun, o, ho, hedges⟩ := mem_ready.1 hi
      have his : i < ops.size := (Array.getElem?_eq_some_iff.1 ho).1
      have hoL : ops.toList[i]? = some o := by simpa using ho
      -- no operation of the tail comes up while one of the head has not
      have hin : i < n0 := by
        rcases Nat.lt_or_ge i n0 with hlt | hge
        · exact hlt
        · exfalso
          rcases Nat.lt_or_ge n0 i with hgt | hle
          · obtain ⟨e, he, hb, hon⟩ := waits_edge (hok.chain i o hgt hoL)
            have := hedges e he hb
            rw [hon, htail (i - 1) (by omega) (by omega)] at this
            cases this
          · have hin : i = n0 := by omega
            have key : ∀ dd i1, n0 - i1 = dd → i1 < n0 → listed.getD i1 false = false → lateB ops.toList n0 i1 = false → False := by
              intro dd
              induction dd using Nat.strongRecOn with
              | _ dd ihd =>
                intro i1 hdd h1 h2 hl2
                obtain ⟨j, oj, g1, g2, g5, g3, g4⟩ := hok.sink (by simpa using (by omega : n0 < ops.size)) i1 h1 hl2
                obtain ⟨e, he, hb, hon⟩ := waits_edge g4
                by_cases hjn : j = n0
                · subst hjn
                  have : oj = o := by
                    rw [← hin] at g3
                    exact Option.some.inj (g3.symm.trans hoL)
                  subst this
                  have := hedges e he hb
                  rw [hon, h2] at this
                  cases this
                · cases hlj : listed.getD j false with
                  | true =>
                    have := hclosed j oj (by omega) g3 hlj e he hb
                    rw [hon, h2] at this
                    cases this
                  | false => exact ihd (n0 - j) (by omega) j rfl (by omega) hlj (g5.resolve_left hjn)
            exact key _ i0 rfl hi0 hun0 hneed0
      have hunf : listed.getD i false = false := getD_both hun
      obtain ⟨d, hd, hdl, ti, e1, e2, e3, e4⟩ := lex i o hin hoL
      -- what it looks at is there
      have hlook : ∀ x ∈ looks ops.toList o, nth t x = nth ti x := by
        intro x hx
        by_cases hw : ∃ j oj, j < n0 ∧ ops.toList[j]? = some oj ∧ oj.dst = some x
        · obtain ⟨j, oj, g1, g2, g3⟩ := hw
          obtain ⟨g4, g5⟩ := hok.reads i o x j oj hin hoL hx g1 g2 g3
          obtain ⟨e, he, hb, hon⟩ := waits_edge g5
          have hlj := hedges e he hb
          rw [hon] at hlj
          rw [mid.done j oj x g1 g2 g3 hlj, e2 j oj x g4 g2 g3]
        · have hx' : ∀ j o, j < n0 → ops.toList[j]? = some o → o.dst ≠ some x := fun j o h1 h2 h3 => hw ⟨j, o, h1, h2, h3⟩
          rw [mid.rest x (fun j o h1 h2 _ => hx' j o h1 h2), e3 x (fun j oj h1 h2 => hx' j oj (by omega) h2)]
      have hopd : ∀ y ∈ o.op.operands, evO c ⟨t, m0, rd, [], []⟩ y = evO c ⟨ti, m0, rd, [], []⟩ y := by
        intro y hy
        cases y with
        | tmp x =>
          refine hlook x ?_
          unfold looks
          exact List.mem_append_left _ (List.mem_filterMap.2 ⟨.tmp x, by simpa using hy, rfl⟩)
        | _ => rfl
      have hguard : ∀ j w oj d', o.guard = some (j, w) → nth ops.toList j = some oj → oj.dst = some d' → nth t d' = nth ti d' := by
        intro j w oj d' g1 g2 g3
        refine hlook d' ?_
        unfold looks
        refine List.mem_append_right _ ?_
        rw [g1]
        simp only [g2, g3]
        simp
      have hold0 : ∀ {k : Nat} {x : Option (Blk A)}, nth m0 k = some x → nth m k = some x := fun hk => by rw [mid.old _ (nth_lt hk)]; exact hk
      have hm0 : MRel c X W0 β m0 W := mid.mrel.live (fun k blk hk => hold0 hk)
      -- what stands behind it, once its value is in its slot
      have next : ∀ (v : TV A) (u : Value) (W' : World) (m' : Mem A) (β' : Adr), Adr.le β β' → v.Is β' u → nth T d = some v → MRel c X W0 β' m' W' → Top β' m' → m'.length = m.length → (∀ k, k < m0.length → nth m' k = nth m k) → NC W W' →
          (∀ j o', j < n0 → ops.toList[j]? = some o' → isAlloc o'.op = true → j ≠ i → nth m' (m0.length + cnt ops.toList j) = nth m (m0.length + cnt ops.toList j) ∧ β' (m0.length + cnt ops.toList j) = β (m0.length + cnt ops.toList j)) →
          (isAlloc o.op = true → nth m' (m0.length + cnt ops.toList i) = nth New (cnt ops.toList i)) →
          wpAnyIn (Fr r) n c.P .any ops Q f (listed.setIfInBounds i true) (a.put o.dst u) W' := by
        intro v u W' m' β' hle hvu hTd hm' htop' hml hold hnc hoth hself
        have hset : ∀ j, (listed.setIfInBounds i true).getD j false = if i = j then true else listed.getD j false := fun j => getD_set _ _ _ (by omega)
        refine ih (U.erase i) _ _ W' (setN t d v) m' β' ?_ (by simpa using hs) ?_ ?_ ?_ ?_
        · have := List.length_erase_of_mem (hU i hin hunf)
          have h0 : 0 < U.length := List.length_pos_of_mem (hU i hin hunf)
          omega
        · intro j hj hlj
          rw [hset] at hlj
          split at hlj
          · cases hlj
          · rename_i hne
            exact (List.mem_erase_of_ne (fun e => hne e.symm)).2 (hU j hj hlj)
        · intro j hj hjs
          rw [hset, if_neg (by omega)]
          exact htail j hj hjs
        · intro j oj hj hoj hlj e he hb
          rw [hset] at hlj ⊢
          split
          · rfl
          · split at hlj
            · rename_i hij
              subst hij
              have : oj = o := Option.some.inj (hoj.symm.trans hoL)
              subst this
              exact hedges e he hb
            · exact hclosed j oj hj hoj hlj e he hb
        · have ht' : TRel β' t a := mid.trel.mono hle
          refine ⟨?_, by rw [put_defers]; exact mid.dfs.mono hle, hm', htop', by rw [setN_length]; exact mid.len, ?_, ?_, by rw [hml]; exact mid.mlen, fun k hk => by rw [hold k hk, mid.old k hk], ?_, ?_, Adr.le_trans mid.le hle, mid.y.kept hle hnc⟩
          · rw [hd]
            exact TRel.put (st := ⟨t, m0, rd, [], []⟩) (d := some d) ht' hvu
          · intro j oj dj hj hoj hdj hlj
            rw [nth_setN]
            by_cases hjd : d = dj
            · subst hjd
              rw [if_pos rfl, if_pos (by rw [mid.len]; exact hdl), hTd]
            · rw [if_neg hjd]
              rw [hset] at hlj
              split at hlj
              · rename_i hij
                subst hij
                have : oj = o := Option.some.inj (hoj.symm.trans hoL)
                subst this
                exact absurd (Option.some.inj (hd.symm.trans hdj)) hjd
              · exact mid.done j oj dj hj hoj hdj hlj
          · intro x hx
            rw [nth_setN, if_neg]
            · refine mid.rest x (fun j oj hj hoj hlj => hx j oj hj hoj ?_)
              rw [hset]
              split
              · rfl
              · exact hlj
            · intro e
              subst e
              exact hx i o hin hoL (by rw [hset, if_pos rfl]) hd
          · intro j oj hj hoj haj hlj
            by_cases hij : j = i
            · subst hij
              have : oj = o := Option.some.inj (hoj.symm.trans hoL)
              subst this
              exact hself haj
            · rw [(hoth j oj hj hoj haj hij).1]
              rw [hset, if_neg (fun e => hij e.symm)] at hlj
              exact mid.laid j oj hj hoj haj hlj
          · intro j oj hj hoj haj hlj
            rw [hset] at hlj
            split at hlj
            · cases hlj
            · rename_i hne
              rw [(hoth j oj hj hoj haj (fun e => hne e.symm)).1, (hoth j oj hj hoj haj (fun e => hne e.symm)).2]
              exact mid.free j oj hj hoj haj hlj
      unfold wpOpIn
      simp only [ho]
      rcases e4 with ⟨ty, cells, hop, hg, hz, hNew, hTd⟩ | ⟨hna, b, hw, hT, hF⟩
      · -- a new block
        have hwant : Region.wanted o (yielded ops a.tmps) = true := by simp [Region.wanted, hg]
        rw [if_pos hwant]
        have ha : isAlloc o.op = true := by rw [hop]; rfl
        obtain ⟨hfree1, hfree2⟩ := mid.free i o hin hoL ha hunf
        obtain ⟨z, hz1, hz2⟩ := run_zeroT (P := c.P) (w := W) (β := β) hz
        have hslot : m0.length + cnt ops.toList i < m.length := nth_lt hfree1
        refine yld_value (r := r) (n := n) (P := c.P) (v := .pointer (some ⟨W.heap.size, 0, none⟩)) (W := W) (W' := W.alloc (.cells z.cells ty)) (post := fun v W' => v = .pointer (some ⟨W.heap.size, 0, none⟩) ∧ W' = W.alloc (.cells z.cells ty)) (by simp [hop]) ?_ ⟨rfl, rfl⟩ _ Q ?_
        · simp [execOp, hop, Instr.alloc, hz1, newVar, newRow]
        · rintro v W' ⟨rfl, rfl⟩
          have hmm := mid.mrel.alloc (t := ty) (m' := setN m (m0.length + cnt ops.toList i) (some ⟨cells, ty, false⟩)) hfree2 hz2 (fun k blk hk => by
            rw [nth_setN] at hk
            by_cases hki : m0.length + cnt ops.toList i = k
            · rw [if_pos hki, if_pos hslot] at hk
              simp at hk
              exact .inl ⟨hki.symm, hk.symm⟩
            · rw [if_neg hki] at hk
              exact .inr ⟨fun e => hki e.symm, hk⟩)
          refine next (.val false [.p (m0.length + cnt ops.toList i) 0]) _ _ (setN m (m0.length + cnt ops.toList i) (some ⟨cells, ty, false⟩)) (β.put (m0.length + cnt ops.toList i) W.heap.size) (Adr.le_put hfree2) ?_ hTd (by simpa using hmm) ?_ (setN_length _ _ _) ?_ (Keeps.alloc W _).nc ?_ ?_
          · exact LIs.of_single ⟨W.heap.size, by simp [Adr.put_at], rfl⟩
          · intro k hk
            rw [setN_length] at hk
            refine ⟨?_, (mid.top k hk).2⟩
            rw [Adr.put_at, if_neg (by omega)]
            exact (mid.top k hk).1
          · intro k hk
            rw [nth_setN, if_neg (by omega)]
          · intro j oj hj hoj haj hji
            have hne : cnt ops.toList j ≠ cnt ops.toList i := by
              rcases Nat.lt_or_ge j i with hlt | hge
              · have := cnt_lt hoj haj hlt; omega
              · have := cnt_lt hoL ha (by omega : i < j); omega
            constructor
            · rw [nth_setN, if_neg (by omega)]
            · rw [Adr.put_at, if_neg (by omega)]
          · intro _
            rw [nth_setN, if_pos rfl, if_pos hslot, hNew]
      · have hwt : wants ops.toList ⟨t, m0, rd, [], []⟩ o = some b := by
          rw [wants_congr (st := ⟨t, m0, rd, [], []⟩) (st' := ⟨ti, m0, rd, [], []⟩) hguard]; exact hw
        have hwant := wants_is (ops := ops) (st := ⟨t, m0, rd, [], []⟩) mid.trel hwt
        have hoth0 : ∀ j o', j < n0 → ops.toList[j]? = some o' → isAlloc o'.op = true → j ≠ i → nth m (m0.length + cnt ops.toList j) = nth m (m0.length + cnt ops.toList j) ∧ β (m0.length + cnt ops.toList j) = β (m0.length + cnt ops.toList j) := fun _ _ _ _ _ _ => ⟨rfl, rfl⟩
        cases b with
        | true =>
          rw [if_pos hwant]
          obtain ⟨v, vc2, hv, hvc2, hvc3, hTd⟩ := hT rfl
          have hvt : opV c ⟨t, m0, rd, [], []⟩ o.op = some (v, vc2) := by
            rw [opV_congr (st := ⟨t, m0, rd, [], []⟩) (st' := ⟨ti, m0, rd, [], []⟩) (fun _ => rfl) hopd]; exact hv
          refine opV_sound (r := r) (n := n) hc.calls (st := ⟨t, m0, rd, [], []⟩) mid.trel hm0 hvt (fun p hp => hVC p (hvc2 p hp)) _ Q ?_
          rintro u W' ⟨K, hK, hu, hk⟩
          exact next _ u W' m (β.know K) (Adr.le_know β K) (decT_is hu (fun p hp => hVC p (hvc3 p hp))) hTd (mid.mrel.know hk hK) mid.top rfl (fun _ _ => rfl) hk.nc (fun _ _ _ _ _ _ => ⟨rfl, rfl⟩) (fun e => by rw [hna] at e; cases e)
        | false =>
          rw [if_neg (by rw [hwant]; simp)]
          exact ⟨fun _ _ => trivial, next undefT undef W m β (Adr.le_refl β) (undefT_is β) (hF rfl) mid.mrel mid.top rfl (fun _ _ => rfl) (NC.refl W) hoth0 (fun e => by rw [hna] at e; cases e)⟩

theorem headLen_le (l : List Oper) : headLen l ≤ l.length := by
  induction l with
  | nil => exact Nat.le_refl _
  | cons o l ih => unfold headLen; split <;> simp; omega

theorem execHead_vc {c : Cfg A} {ops : List Oper} {m0 : Mem A} {rd : Nat} : ∀ {l : List Oper} {t : List (TV A)} {new : Mem A} {vc : List Prop} {T New VC}, execHead c ops m0 rd l t new vc = some (T, New, VC) → ∀ p ∈ vc, p ∈ VC
  | [], t, new, vc, T, New, VC, h => by simp [execHead] at h; obtain ⟨_, _, rfl⟩ := h; exact fun _ h => h
  | o :: rest, t, new, vc, T, New, VC, h => by
    simp only [execHead] at h
    split at h
    · cases h
    · split at h
      · split at h
        · split at h
          · exact execHead_vc h
          · cases h
        · split at h
          · split at h
            · intro p hp; exact execHead_vc h p (by simp [hp])
            · cases h
          · exact execHead_vc h
          · cases h
      · cases h

theorem execDraw_vc {c : Cfg A} {ops : List Oper} {st st' : St A} (h : execDraw c ops st = some st') : ∀ p ∈ st.vc, p ∈ st'.vc := by
  simp only [execDraw] at h
  split at h
  · split at h
    · rename_i t new vc hh
      intro p hp
      exact execOps_vc h p (execHead_vc hh p hp)
    · cases h
  · cases h

/-- A region that draws its order. -/
theorem execDraw_sound {c : Cfg A} (hc : CfgOK c) {X : Nat → Prop} {W0 W : World} {ops : Array Oper} {id : Nat} {r : Option Nat} {n : Nat} {Q : Exit → Act → World → Prop} {st st' : St A} {β : Adr} {a : Act}
    (h : execDraw c ops.toList st = some st') (hvc : ∀ p ∈ st'.vc, p) (hr : Rel c X W0 β st a W) (hQ : ∀ β' a' W', Adr.le β β' → Rel c X W0 β' st' a' W' → Q .normal a' W') :
    (Code.region id ops true).wpIn (Fr r) n c.P Q a W := by
  unfold execDraw at h
  simp only [Bool.and_eq_true] at h
  split at h
  · rename_i hb
    split at h
    · rename_i T New VC hh
      have hle : headLen ops.toList ≤ ops.toList.length := headLen_le _
      have hok := drawOK_spec hle hb.1
      have hVC : ∀ p ∈ VC, p := fun p hp => hvc p (execOps_vc h p hp)
      obtain ⟨g1, g2, _, _, g5, g6⟩ := head_lex (c := c) (m0 := st.m) (rd := st.rd) hok.apart hle (headLen ops.toList) 0 st.t [] st.vc T New VC (by omega) (Nat.zero_le _) (by simp [cnt]) (by simpa using hh)
      refine wpIn_region_any hb.2 ?_
      have hfalse : ∀ j, (Array.replicate ops.size false).getD j false = false := by
        intro j
        rcases Nat.lt_or_ge j ops.size with h' | h'
        · simp [h']
        · simp [h']
      have hlen : ops.toList.length = ops.size := by simp
      refine draw_head hc hok (by simpa using hle) hvc hVC g1 g2 (fun x hx => g5 x (fun j o _ h2 h3 => hx j o h2 h3))
        (fun i o hi ho => by
          obtain ⟨d, k1, k2, ti, k3, k4, k5, k6⟩ := g6 i o (Nat.zero_le _) hi ho
          exact ⟨d, k1, k2, ti, k3, fun j oj dj h1 h2 h3 => k4 j oj dj (Nat.zero_le _) h1 h2 h3, fun x hx => k5 x (fun j oj _ h2 h3 => hx j oj h2 h3), k6⟩)
        h hQ ops.size (List.range (headLen ops.toList)) (Array.replicate ops.size false) a _ st.t (st.m ++ List.replicate (cnt ops.toList (headLen ops.toList)) none) β ?_ (by simp) (fun j hj _ => List.mem_range.2 hj) (fun j _ _ => hfalse j)
        (fun j _ _ _ hl => by rw [hfalse] at hl; cases hl) ?_
      · simp; omega
      · have hm1 : MRel c X W0 β st.m { W with drawn := W.drawn + 1 } := hr.m.keeps (Keeps.drew W)
        have hnone : ∀ k, st.m.length ≤ k → k < st.m.length + cnt ops.toList (headLen ops.toList) → nth (st.m ++ List.replicate (cnt ops.toList (headLen ops.toList)) none) k = some none := by
          intro k h1 h2
          rw [nth_eq, List.getElem?_append_right h1, List.getElem?_replicate, if_pos (by omega)]
        have live : ∀ {k : Nat} {blk : Blk A}, nth (st.m ++ List.replicate (cnt ops.toList (headLen ops.toList)) none) k = some (some blk) → nth st.m k = some (some blk) := by
          intro k blk hk
          have hlt := nth_lt hk
          rcases Nat.lt_or_ge k st.m.length with h' | h'
          · rw [nth_append_lt h'] at hk
            exact hk
          · rw [hnone k h' (by simpa using hlt)] at hk
            cases hk
        refine ⟨hr.t, hr.d, hm1.live (fun k blk hk => live hk), fun k hk => hr.top k (by simp at hk; omega), rfl, fun j _ _ _ _ _ hl => ?_, fun _ _ => rfl, by simp, fun k hk => nth_append_lt hk, fun j _ _ _ _ hl => ?_, fun j o hj ho ha _ => ⟨?_, ?_⟩, Adr.le_refl β, hr.y.kept (Adr.le_refl β) (Keeps.drew W).nc⟩
        · rw [hfalse] at hl; cases hl
        · rw [hfalse] at hl; cases hl
        · exact hnone _ (by omega) (by have := cnt_lt ho ha hj; omega)
        · exact (hr.top _ (by omega)).1
    · cases h
  · cases h

end
end Go.Sh

/- A region that draws its order: the theorem. -/
import Derived.Test.YtbdbmcdcjejffaaEn4
import Derived.Scope
import Derived.RangeFuncLeaves
import Derived.RangeFuncNested
import Derived.Laws.Externs
set_option linter.unusedVariables false
set_option linter.unusedSimpArgs false
set_option linter.unusedSectionVars false
namespace Go.Sh
open Go.RowKit

/-! ### What the Bool over a region says -/

theorem dsts_mem : ∀ {l : List Oper} {k i : Nat} {o : Oper} {d : Nat}, l[i]? = some o → o.dst = some d → (d, k + i) ∈ dsts l k
  | [], _, _, _, _, h, _ => by simp at h
  | o :: l, k, 0, o', d, h, hd => by
    simp at h; subst h
    simp [dsts, hd]
  | o :: l, k, i + 1, o', d, h, hd => by
    simp at h
    have ih := dsts_mem (k := k + 1) h hd
    rw [show k + 1 + i = k + (i + 1) by omega] at ih
    unfold dsts
    split
    · exact List.mem_cons_of_mem _ ih
    · exact ih

theorem dsts_apart : ∀ {l : List Oper} {k i j : Nat} {oi oj : Oper} {d : Nat}, pairsApart (dsts l k) = true → l[i]? = some oi → l[j]? = some oj → oi.dst = some d → oj.dst = some d → i = j
  | [], _, _, _, _, _, _, _, h, _, _, _ => by simp at h
  | o :: l, k, 0, 0, _, _, _, _, _, _, _, _ => rfl
  | o :: l, k, 0, j + 1, oi, oj, d, h, h1, h2, h3, h4 => by
    simp at h1 h2
    subst h1
    simp only [dsts, h3, pairsApart, Bool.and_eq_true] at h
    have := List.all_eq_true.1 h.1 (d, k + 1 + j) (dsts_mem h2 h4)
    simp at this
  | o :: l, k, i + 1, 0, oi, oj, d, h, h1, h2, h3, h4 => by
    simp at h1 h2
    subst h2
    simp only [dsts, h4, pairsApart, Bool.and_eq_true] at h
    have := List.all_eq_true.1 h.1 (d, k + 1 + i) (dsts_mem h1 h3)
    simp at this
  | o :: l, k, i + 1, j + 1, oi, oj, d, h, h1, h2, h3, h4 => by
    simp at h1 h2
    have h' : pairsApart (dsts l (k + 1)) = true := by
      unfold dsts at h
      split at h
      · simp only [pairsApart, Bool.and_eq_true] at h; exact h.2
      · exact h
    rw [dsts_apart h' h1 h2 h3 h4]

theorem readsAll_at {ops : List Oper} {ds : List (Nat × Nat)} : ∀ {l : List Oper} {k i : Nat} {o : Oper}, readsAll ops ds l k = true → l[i]? = some o → readsOK ops ds (k + i) o = true
  | [], _, _, _, _, h => by simp at h
  | o :: l, k, 0, o', h, h1 => by
    simp at h1; subst h1
    simp only [readsAll, Bool.and_eq_true] at h
    exact h.1
  | o :: l, k, i + 1, o', h, h1 => by
    simp at h1
    simp only [readsAll, Bool.and_eq_true] at h
    have := readsAll_at h.2 h1
    rw [show k + 1 + i = k + (i + 1) by omega] at this
    exact this

theorem edgesBack_at : ∀ {l : List Oper} {k i : Nat} {o : Oper}, edgesBack l k = true → l[i]? = some o → ∀ e ∈ o.after, Region.binds .any e = true → e.on < k + i
  | [], _, _, _, _, h => by simp at h
  | o :: l, k, 0, o', h, h1 => by
    simp at h1; subst h1
    simp only [edgesBack, Bool.and_eq_true] at h
    intro e he hb
    have := List.all_eq_true.1 h.1 e (by simpa using he)
    simpa [hb] using this
  | o :: l, k, i + 1, o', h, h1 => by
    simp at h1
    simp only [edgesBack, Bool.and_eq_true] at h
    have := edgesBack_at h.2 h1
    rw [show k + 1 + i = k + (i + 1) by omega] at this
    exact this

structure DrawOK {A : Type} [Atom A] (ad : Ad) (L : List Oper) (n : Nat) (T F : List (TV A)) (l : Nat) : Prop where
  dst : ∀ (i : Nat) (o : Oper), i < n → L[i]? = some o → ∃ d, o.dst = some d
  apart : Apart L n
  reads : ∀ (i : Nat) (o : Oper) (x j : Nat) (oj : Oper), i < n → L[i]? = some o → x ∈ looks L o → j < n → L[j]? = some oj → oj.dst = some x → j < i ∧ waits o j = true
  back : ∀ (i : Nat) (o : Oper), L[i]? = some o → ∀ e ∈ o.after, Region.binds .any e = true → e.on < i
  sink : n < L.length → ∀ i, i < n → lateB ad L n T F l i = false → ∃ (j : Nat) (o : Oper), i < j ∧ j ≤ n ∧ (j = n ∨ lateB ad L n T F l j = false) ∧ L[j]? = some o ∧ waits o i = true
  chain : ∀ (t : Nat) (o : Oper), n < t → L[t]? = some o → waits o (t - 1) = true

theorem drawOK_spec {A : Type} [Atom A] {ad : Ad} {L : List Oper} {n : Nat} {T F : List (TV A)} {l : Nat} (hn : n ≤ L.length) (h : drawOK ad L n T F l = true) : DrawOK ad L n T F l := by
  unfold drawOK at h
  simp only [Bool.and_eq_true, Bool.or_eq_true, decide_eq_true_eq] at h
  obtain ⟨⟨⟨⟨h1, h2⟩, h3⟩, h4⟩, h5⟩ := h
  have ht : ∀ i o, i < n → L[i]? = some o → (L.take n)[i]? = some o := fun i o hi ho => by rw [List.getElem?_take, if_pos hi]; exact ho
  refine ⟨?_, ?_, ?_, ?_, ?_, ?_⟩
  · intro i o hi ho
    have := List.all_eq_true.1 h1 o (List.mem_of_getElem? (ht i o hi ho))
    exact Option.isSome_iff_exists.1 this
  · intro i j oi oj d hi hj h6 h7 h8 h9
    exact dsts_apart h2 (ht i oi hi h6) (ht j oj hj h7) h8 h9
  · intro i o x j oj hi ho hx hj hoj hd
    have := readsAll_at h3 (ht i o hi ho)
    rw [Nat.zero_add] at this
    have h6 := List.all_eq_true.1 (List.all_eq_true.1 this x hx) (x, 0 + j) (dsts_mem (ht j oj hj hoj) hd)
    simp only [bne_self_eq_false, Bool.false_or, Bool.and_eq_true, decide_eq_true_eq, Nat.zero_add] at h6
    exact h6
  · intro i o ho e he hb
    have := edgesBack_at h4 ho e he hb
    omega
  · intro hlt i hi hlate
    rcases h5 with h5 | h5
    · omega
    · simp only [sinks, Bool.and_eq_true] at h5
      have := List.all_eq_true.1 h5.1 i (List.mem_range.2 hi)
      rw [hlate, Bool.false_or] at this
      obtain ⟨k, hk, hw⟩ := List.any_eq_true.1 this
      have hk := List.mem_range.1 hk
      simp only [Bool.and_eq_true, Bool.or_eq_true, Bool.not_eq_true'] at hw
      split at hw
      · rename_i o ho
        rw [nth_eq] at ho
        refine ⟨i + 1 + k, o, by omega, by omega, ?_, ho, hw.2⟩
        rcases hw.1 with h6 | h6
        · exact .inl (Nat.eq_of_beq_eq_true h6)
        · exact .inr h6
      · cases hw.2
  · intro t o htn ho
    have htl := (List.getElem?_eq_some_iff.1 ho).1
    rcases h5 with h5 | h5
    · omega
    · simp only [sinks, Bool.and_eq_true] at h5
      have := List.all_eq_true.1 h5.2 (t - n - 1) (List.mem_range.2 (by omega))
      rw [show n + (t - n - 1) + 1 = t by omega, nth_eq, ho] at this
      simp only at this
      rwa [show n + (t - n - 1) = t - 1 by omega] at this

theorem firstWait_spec : ∀ (l : List Oper) (i k : Nat), k ≤ firstWait l i k ∧ (firstWait l i k < k + l.length → ∃ o, l[firstWait l i k - k]? = some o ∧ waits o i = true)
  | [], i, k => ⟨Nat.le_refl _, fun h => by simp [firstWait] at h⟩
  | o :: l, i, k => by
    unfold firstWait
    split
    · rename_i hw
      exact ⟨Nat.le_refl _, fun _ => ⟨o, by simp, hw⟩⟩
    · obtain ⟨h1, h2⟩ := firstWait_spec l i (k + 1)
      refine ⟨by omega, fun h => ?_⟩
      obtain ⟨o', h3, h4⟩ := h2 (by simp at h; omega)
      refine ⟨o', ?_, h4⟩
      rw [show firstWait l i (k + 1) - k = (firstWait l i (k + 1) - (k + 1)) + 1 by omega]
      simpa using h3

structure LateOK {A : Type} [Atom A] (ad : Ad) (L : List Oper) (n i : Nat) (T F : List (TV A)) (l : Nat) (o : Oper) : Prop where
  pure : pureX o.op = true ∨ ∃ ty x tv ko, o.op = .load ty (.tmp x) ∧ nth T x = some tv ∧ lookAt tv = some ko ∧ ∀ k, ko = some k → k < l ∧
    ∀ (m : Nat) (om : Oper), n ≤ m → m < lateK L n i → L[m]? = some om → (∀ cl, om.op = .call cl → ∃ g args ats, cl = { callee := .value (.func g), args := args, argTypes := ats } ∧ Ad.at ad g = true) ∧ ∀ t' y' v', om.op = .store t' y' v' → ∃ y tv' k', y' = .tmp y ∧ nth F y = some tv' ∧ lookAt tv' = some (some k') ∧ k' ≠ k ∧ ∀ (m' : Nat) (om' : Oper), m ≤ m' → L[m']? = some om' → om'.dst ≠ some y
  guard : o.guard = none
  ge : n < lateK L n i
  wait : lateK L n i < L.length → ∃ k, L[lateK L n i]? = some k ∧ waits k i = true
  mind : ∀ (m : Nat) (om : Oper), n ≤ m → m < lateK L n i → L[m]? = some om → simpleOp ad om.op = true ∧ om.guard = none ∧ (∀ dm, om.dst = some dm → (∀ d, o.dst = some d → d ≠ dm) ∧ ∀ x ∈ looks L o, x ≠ dm) ∧ (∀ d, o.dst = some d → ∀ x ∈ looks L om, x ≠ d)

theorem blkAt_spec {A : Type} [Atom A] {T : List (TV A)} {l x : Nat} {ko : Option Nat} (h : blkAt T l x = some ko) : ∃ tv, nth T x = some tv ∧ lookAt tv = some ko ∧ ∀ k, ko = some k → k < l := by
  unfold blkAt at h
  split at h
  · rename_i tv e
    split at h
    · rename_i k hk
      split at h
      · rename_i hlt
        obtain rfl := Option.some.inj h
        exact ⟨tv, e, hk, fun k' hk' => by obtain rfl := Option.some.inj hk'; exact hlt⟩
      · cases h
    · rename_i hk
      obtain rfl := Option.some.inj h
      exact ⟨tv, e, hk, fun k' hk' => by cases hk'⟩
    · cases h
  · cases h

theorem blkOf_spec {A : Type} [Atom A] {ad : Ad} {T : List (TV A)} {l x : Nat} {ko : Option Nat} (h : blkOf ad T l x = some ko) : ∃ tv, nth T x = some tv ∧ lookAt tv = some ko := by
  unfold blkOf at h
  split at h
  · split at h
    · rename_i tv e
      exact ⟨tv, e, h⟩
    · cases h
  · obtain ⟨tv, h1, h2, _⟩ := blkAt_spec h
    exact ⟨tv, h1, h2⟩

/-- What is loaded hangs on that block alone. -/
theorem loadV_look {A : Type} [Atom A] {c : Cfg A} {m m' : Mem A} {ty : TypeId} {tv : TV A} {ko : Option Nat} (h : lookAt tv = some ko) (hm : ∀ k, ko = some k → nth m k = nth m' k) : loadV c m ty tv = loadV c m' ty tv := by
  unfold lookAt at h
  split at h
  · obtain rfl := Option.some.inj h
    simp only [loadV, hm _ rfl]
  · obtain rfl := Option.some.inj h
    simp only [loadV, hm _ rfl]
  · rfl
  · cases h

/-- What is stored is stored in that block alone. -/
theorem storeV_look {A : Type} [Atom A] {P : Program} {m m' : Mem A} {ty : TypeId} {tv y : TV A} {k b : Nat} {vc : List Prop} (h : lookAt tv = some (some k)) (hs : storeV P m ty tv y = some (m', vc)) (hb : k ≠ b) : nth m' b = nth m b := by
  unfold storeV at hs
  split at hs
  · obtain rfl : _ = k := Option.some.inj (Option.some.inj h)
    repeat' split at hs
    all_goals first | (cases hs; done) | (simp only [Option.some.injEq, Prod.mk.injEq] at hs; obtain ⟨rfl, _⟩ := hs; rw [nth_setN, if_neg hb])
  · obtain rfl : _ = k := Option.some.inj (Option.some.inj h)
    repeat' split at hs
    all_goals first | (cases hs; done) | (simp only [Option.some.injEq, Prod.mk.injEq] at hs; obtain ⟨rfl, _⟩ := hs; rw [nth_setN, if_neg hb])
  · cases hs

theorem late_spec {A : Type} [Atom A] {ad : Ad} {L : List Oper} {n i : Nat} {T F : List (TV A)} {l : Nat} {o : Oper} (hn : n ≤ L.length) (ho : L[i]? = some o) (h : lateB ad L n T F l i = true) : LateOK ad L n i T F l o := by
  unfold lateB at h
  rw [nth_eq, ho] at h
  simp only [lateO, Bool.and_eq_true] at h
  obtain ⟨⟨⟨h1, h2⟩, h3⟩, h0⟩ := h
  have mem : ∀ (m : Nat) (om : Oper), n ≤ m → m < lateK L n i → L[m]? = some om → om ∈ (L.drop n).take (lateK L n i - n) := by
    intro m om hm1 hm2 hom
    refine List.mem_of_getElem? (i := m - n) ?_
    rw [List.getElem?_take, if_pos (by omega), List.getElem?_drop, show n + (m - n) = m by omega]
    exact hom
  have h1 : pureX o.op = true ∨ ∃ ty x tv ko, o.op = .load ty (.tmp x) ∧ nth T x = some tv ∧ lookAt tv = some ko ∧ ∀ k, ko = some k → k < l ∧
      ∀ (m : Nat) (om : Oper), n ≤ m → m < lateK L n i → L[m]? = some om → (∀ cl, om.op = .call cl → ∃ g args ats, cl = { callee := .value (.func g), args := args, argTypes := ats } ∧ Ad.at ad g = true) ∧ ∀ t' y' v', om.op = .store t' y' v' → ∃ y tv' k', y' = .tmp y ∧ nth F y = some tv' ∧ lookAt tv' = some (some k') ∧ k' ≠ k ∧ ∀ (m' : Nat) (om' : Oper), m ≤ m' → L[m']? = some om' → om'.dst ≠ some y := by
    unfold pureOr at h1
    rw [Bool.or_eq_true, Bool.or_eq_true] at h1
    rcases h1 with (h1 | h1) | h1
    · exact .inl (pureX_of h1)
    · rw [Bool.and_eq_true] at h1
      exact .inl h1.2
    · refine .inr ?_
      split at h1
      · rename_i ty x hop
        unfold loadApart at h0
        rw [hop] at h0
        simp only at h0
        split at h0
        · rename_i hk
          obtain ⟨tv, hz, hlk, hkl⟩ := blkAt_spec hk
          exact ⟨ty, x, tv, none, hop, hz, hlk, fun k hk' => by cases hk'⟩
        · rename_i k hk
          obtain ⟨tv, hz, hlk, hkl⟩ := blkAt_spec hk
          refine ⟨ty, x, tv, some k, hop, hz, hlk, fun k0 hk0 => ?_⟩
          obtain rfl := Option.some.inj hk0
          refine ⟨hkl _ rfl, fun m om hm1 hm2 hom => ?_⟩
          have h4 := List.all_eq_true.1 h0 (m - n) (List.mem_range.2 (by omega))
          rw [show n + (m - n) = m by omega, nth_eq, hom] at h4
          simp only at h4
          refine ⟨fun cl hcl => ?_, fun t' y' v' hst => ?_⟩
          · rw [hcl] at h4
            obtain ⟨callee, args, ats⟩ := cl
            cases callee with
            | value f =>
              cases f with
              | func g => exact ⟨g, args, ats, rfl, by simpa using h4⟩
              | _ => simp at h4
            | _ => simp at h4
          · rw [hst] at h4
            cases y' with
            | tmp y =>
              simp only [Bool.and_eq_true] at h4
              obtain ⟨h5, h6⟩ := h4
              split at h5
              · rename_i k' hk'
                obtain ⟨tv', hz', hlk'⟩ := blkOf_spec hk'
                refine ⟨y, tv', k', rfl, hz', hlk', by simpa using h5, fun m' om' g1 g3 g4 => ?_⟩
                have h7 := List.all_eq_true.1 h6 om' (List.mem_of_getElem? (i := m' - m) (by rw [List.getElem?_drop, show m + (m' - m) = m' by omega]; exact g3))
                rw [g4] at h7
                simp at h7
              · cases h5
            | _ => simp at h4
        · cases h0
      · cases h1
  obtain ⟨k1, k2⟩ := firstWait_spec (L.drop (n + 1)) i (n + 1)
  have hK : lateK L n i = firstWait (L.drop (n + 1)) i (n + 1) := rfl
  refine ⟨h1, by simpa using h2, by omega, fun hlt => ?_, fun m om hm1 hm2 hom => ?_⟩
  · obtain ⟨o', j1, j2⟩ := k2 (by simp; omega)
    rw [List.getElem?_drop] at j1
    rw [hK]
    refine ⟨o', ?_, j2⟩
    rw [show n + 1 + (firstWait (L.drop (n + 1)) i (n + 1) - (n + 1)) = firstWait (L.drop (n + 1)) i (n + 1) by omega] at j1
    exact j1
  · have hmem : om ∈ (L.drop n).take (lateK L n i - n) := by
      refine List.mem_of_getElem? (i := m - n) ?_
      rw [List.getElem?_take, if_pos (by omega), List.getElem?_drop, show n + (m - n) = m by omega]
      exact hom
    have h4 := List.all_eq_true.1 h3 om hmem
    simp only [Bool.and_eq_true] at h4
    obtain ⟨⟨⟨g1, g2⟩, g3⟩, g4⟩ := h4
    refine ⟨g1, by simpa using g2, fun dm hdm => ?_, fun d hd x hx => ?_⟩
    · rw [hdm] at g3
      simp only [Bool.and_eq_true] at g3
      refine ⟨fun d hd => ?_, fun x hx => ?_⟩
      · have := g3.1
        rw [hd] at this
        simpa using this
      · simpa using List.all_eq_true.1 g3.2 x hx
    · rw [hd] at g4
      simpa using List.all_eq_true.1 g4 x hx

theorem waits_edge {o : Oper} {j : Nat} (h : waits o j = true) : ∃ e ∈ o.after, Region.binds .any e = true ∧ e.on = j := by
  obtain ⟨e, he, hb⟩ := List.any_eq_true.1 h
  simp only [Bool.and_eq_true, beq_iff_eq] at hb
  exact ⟨e, by simpa using he, hb.1, hb.2⟩

theorem getD_both {listed : Array Bool} {i : Nat} (h : listed.getD i true = false) : listed.getD i false = false := by
  rcases Nat.lt_or_ge i listed.size with h' | h'
  · simp [h'] at h ⊢; exact h
  · simp [Array.getElem?_eq_none h'] at h

theorem getD_in {listed : Array Bool} {i : Nat} (hi : i < listed.size) (h : listed.getD i false = false) : listed.getD i true = false := by
  simp [hi] at h ⊢; exact h

theorem getD_set (listed : Array Bool) (i j : Nat) (hi : i < listed.size) : (listed.setIfInBounds i true).getD j false = if i = j then true else listed.getD j false := by
  by_cases e : i = j
  · subst e; simp [hi]
  · simp [Array.getD_eq_getD_getElem?, e]

theorem ready_ne {ops : Array Oper} {listed : Array Bool} (hb : ∀ (i : Nat) (o : Oper), ops[i]? = some o → ∀ e ∈ o.after, Region.binds .any e = true → e.on < i) (hs : listed.size = ops.size) :
    ∀ i, i < ops.size → listed.getD i false = false → Region.ready .any ops listed ≠ [] := by
  intro i
  induction i using Nat.strongRecOn with
  | _ i ih =>
    intro hi hun
    by_cases hall : ∀ e ∈ ops[i].after, Region.binds .any e = true → listed.getD e.on false = true
    · have : i ∈ Region.ready .any ops listed := mem_ready.2 ⟨getD_in (by omega) hun, ops[i], by simp [hi], hall⟩
      intro h0
      rw [h0] at this
      cases this
    · simp only [Classical.not_forall] at hall
      obtain ⟨e, he, hbd, hl⟩ := hall
      have hlt := hb i ops[i] (by simp [hi]) e he hbd
      exact ih e.on hlt (by omega) (by simpa using hl)

section
variable {A : Type} [Atom A]

/-- Operation i of the tail (or of a region in its order), as it comes up. -/
theorem execOp_step {c : Cfg A} (hc : CfgOK c) {X : Nat → Prop} {W0 : World} {ops : Array Oper} {r : Option Nat} {n : Nat} {Q : Exit → Act → World → Prop} {K : Act → World → Prop} {i : Nat} {o : Oper} {rest : List Oper}
    {st st' : St A} {β : Adr} {a : Act} {W : World} (hi : ops[i]? = some o) (h : execOps c ops.toList (o :: rest) st = some st') (hvc : ∀ p ∈ st'.vc, p) (hr : Rel c X W0 β st a W)
    (hK : ∀ st1 β' a' W', Adr.le β β' → Rel c X W0 β' st1 a' W' → execOps c ops.toList rest st1 = some st' → K a' W') : wpOpIn (Fr r) n c.P ops Q i K a W := by
  unfold wpOpIn
  simp only [hi]
  simp only [execOps] at h
  split at h
  · rename_i hw
    split at h
    · rename_i st1 h1
      have hv1 : ∀ p ∈ st1.vc, p := fun p hp => hvc p (execOps_vc h p hp)
      have hwant := wants_is (ops := ops) hr.t hw
      rw [if_pos hwant]
      refine exec1_sound (r := r) (n := n) hc hr h1 hv1 K Q ?_
      rintro v W' ⟨β', hle, hr'⟩
      exact hK st1 β' _ _ hle hr' h
    · cases h
  · rename_i hw
    have hwant := wants_is (ops := ops) hr.t hw
    rw [if_neg (by rw [hwant]; simp)]
    refine ⟨fun _ _ => trivial, hK _ β _ _ (Adr.le_refl β) ⟨?_, ?_, ?_, by rw [put_defers]; exact hr.d, by rw [putT_pd]; exact hr.y⟩ h⟩
    · exact TRel.put hr.t (undefT_is β)
    · rw [putT_m]; exact hr.m
    · rw [putT_m]; exact hr.top
  · cases h

omit [Atom A] in
theorem ext_nth {α : Type} {l r : List α} (h : ∀ i, nth l i = nth r i) : l = r := by
  apply List.ext_getElem?
  intro i
  rw [← nth_eq, ← nth_eq, h i]

theorem exec1_shape {c : Cfg A} {S S' : St A} {o : Oper} (h : exec1 c S o = some S') : S'.t.length = S.t.length ∧ S'.rd = S.rd ∧ ∀ x, o.dst ≠ some x → nth S'.t x = nth S.t x := by
  have key : ∀ (s : St A) (v : TV A), s.t = S.t → s.rd = S.rd → (putT s o.dst v).t.length = S.t.length ∧ (putT s o.dst v).rd = S.rd ∧ ∀ x, o.dst ≠ some x → nth (putT s o.dst v).t x = nth S.t x := by
    intro s v e1 e2
    cases hd : o.dst with
    | none => exact ⟨by simp [putT, e1], e2, fun x _ => by simp [putT, e1]⟩
    | some d =>
      refine ⟨by simp [putT, setN_length, e1], e2, fun x hx => ?_⟩
      have : d ≠ x := fun e => hx (by rw [e])
      simp only [putT]
      rw [nth_setN, if_neg this, e1]
  have kx : ∀ {g : FuncId} {l : List (TV A)}, callX c S o.dst g l = some S' → S'.t.length = S.t.length ∧ S'.rd = S.rd ∧ ∀ x, o.dst ≠ some x → nth S'.t x = nth S.t x := by
    intro g l h
    unfold callX at h
    split at h
    · obtain rfl := Option.some.inj h; exact key _ _ rfl rfl
    · obtain rfl := Option.some.inj h; exact key _ _ rfl rfl
    · cases h
  unfold exec1 at h
  split at h <;> (try (repeat' split at h)) <;> first | (cases h; done) | exact kx h | (obtain rfl := Option.some.inj h; exact key _ _ rfl rfl)

/-- A slot that no operation of the list writes. -/
theorem execOps_frame {c : Cfg A} {ops : List Oper} {y : Nat} : ∀ {l : List Oper} {S S' : St A}, execOps c ops l S = some S' → (∀ o ∈ l, o.dst ≠ some y) → nth S'.t y = nth S.t y
  | [], S, S', h, _ => by simp [execOps] at h; subst h; rfl
  | o :: rest, S, S', h, hd => by
    have h0 := hd o (by simp)
    have hr : ∀ o ∈ rest, o.dst ≠ some y := fun o ho => hd o (by simp [ho])
    simp only [execOps] at h
    split at h
    · split at h
      · rename_i st1 h1
        rw [execOps_frame h hr]
        exact (exec1_shape h1).2.2 y h0
      · cases h
    · rw [execOps_frame h hr]
      cases hdo : o.dst with
      | none => simp [putT]
      | some d =>
        have : d ≠ y := fun e => h0 (by rw [hdo, e])
        simp only [putT]
        rw [nth_setN, if_neg this]
    · cases h

omit [Atom A] in
theorem putT_nth (s : St A) (d : Option Tmp) (v : TV A) (x : Nat) : nth (putT s d v).t x = (match d with | some d => if d = x then (if d < s.t.length then some v else none) else nth s.t x | none => nth s.t x) := by
  cases d with
  | none => rfl
  | some d => exact nth_setN s.t d x v

/-- A simple operation, where what it looks at is the same. -/
theorem exec1_congr {ad : Ad} {c : Cfg A} {S S' : St A} {t : List (TV A)} {o : Oper} (hs : simpleOp ad o.op = true) (he : ∀ x ∈ o.op.operands, evO c { S with t := t } x = evO c S x) (h : exec1 c S o = some S') :
    ∃ v, S' = putT { S' with t := S.t } o.dst v ∧ exec1 c { S with t := t } o = some (putT { S' with t := t } o.dst v) := by
  have plain : ∀ (tv : TV A) (vc : List Prop), opV c S o.op = some (tv, vc) → exec1 c S o = some (putT { S with vc := (decT c S.rd o.dst tv).2 ++ (vc ++ S.vc) } o.dst (decT c S.rd o.dst tv).1) →
      (∀ (S : St A) tv vc, opV c S o.op = some (tv, vc) → exec1 c S o = some (putT { S with vc := (decT c S.rd o.dst tv).2 ++ (vc ++ S.vc) } o.dst (decT c S.rd o.dst tv).1)) →
      ∃ v, S' = putT { S' with t := S.t } o.dst v ∧ exec1 c { S with t := t } o = some (putT { S' with t := t } o.dst v) := by
    intro tv vc hv h1 hall
    rw [h1] at h
    obtain rfl := Option.some.inj h
    have hv' : opV c { S with t := t } o.op = some (tv, vc) := by
      rw [opV_congr (st := { S with t := t }) (st' := S) (fun _ => rfl) he]; exact hv
    refine ⟨(decT c S.rd o.dst tv).1, ?_, ?_⟩
    · cases o.dst <;> rfl
    · rw [hall _ _ _ hv']
      cases o.dst <;> rfl
  cases hop : o.op with
  | store ty x y =>
    rw [hop] at he
    have ex := he x (by simp [Op.operands])
    have ey := he y (by simp [Op.operands])
    unfold exec1 at h ⊢
    rw [hop] at h ⊢
    simp only [ex, ey] at h ⊢
    split at h
    · split at h
      · obtain rfl := Option.some.inj h
        exact ⟨undefT, by cases o.dst <;> rfl, by cases o.dst <;> rfl⟩
      · cases h
    · cases h
  | assign x =>
    rw [hop] at he
    have ex : evO c { S with t := t } x = evO c S x := he x (by simp [Op.operands])
    unfold exec1 at h ⊢
    rw [hop] at h ⊢
    simp only [ex] at h ⊢
    cases hv : evO c S x with
    | none => simp only [hv] at h; cases h
    | some v =>
      simp only [hv] at h ⊢
      cases hq : growQ c S.rd o.dst v with
      | some q =>
        obtain ⟨e, sz⟩ := q
        simp only [hq] at h ⊢
        obtain rfl := Option.some.inj h
        exact ⟨.val false [.gr (fun _ => Atom.dummy) S.m.length 0 0 sz], by cases o.dst <;> rfl, by cases o.dst <;> rfl⟩
      | none =>
        simp only [hq] at h ⊢
        obtain rfl := Option.some.inj h
        exact ⟨(decT c S.rd o.dst v).1, by cases o.dst <;> rfl, by cases o.dst <;> rfl⟩
  | convert src dst x =>
    have hne : ¬ src = dst := fun e => by subst e; rw [hop] at hs; simp [simpleOp, pureOp] at hs
    have mk : ∀ S : St A, markV c S src dst x = none := fun S => by
      unfold markV
      split
      · rw [if_neg hne]
      · rfl
    have red : ∀ (S : St A) tv vc, opV c S o.op = some (tv, vc) → exec1 c S o = some (putT { S with vc := (decT c S.rd o.dst tv).2 ++ (vc ++ S.vc) } o.dst (decT c S.rd o.dst tv).1) := by
      intro S tv vc hv; unfold exec1; rw [hop] at hv ⊢; simp only [hv]
    cases hv : opV c S o.op with
    | none => unfold exec1 at h; rw [hop] at h hv; simp only [hv, mk] at h; cases h
    | some q => exact plain q.1 q.2 hv (red S _ _ hv) red
  | call cl =>
    obtain ⟨callee, args, ats⟩ := cl
    cases callee with
    | builtin b =>
      cases b with
      | append =>
        rw [hop] at he
        have eL : evL c { S with t := t } args.toList = evL c S args.toList := evL_congr (fun x hx => he x (by simp only [Op.operands, Call.operands]; simpa using hx))
        unfold exec1 at h ⊢
        rw [hop] at h ⊢
        simp only [eL] at h ⊢
        repeat' split at h
        all_goals first | (cases h; done) | skip
        rename_i v m' vc hv
        obtain rfl := Option.some.inj h
        exact ⟨v, by cases o.dst <;> rfl, by simp only [*]; cases o.dst <;> rfl⟩
      | _ =>
        first
        | (rw [hop] at hs; simp [simpleOp, pureOp] at hs; done)
        | (have red : ∀ (S : St A) tv vc, opV c S o.op = some (tv, vc) → exec1 c S o = some (putT { S with vc := (decT c S.rd o.dst tv).2 ++ (vc ++ S.vc) } o.dst (decT c S.rd o.dst tv).1) := by
            intro S tv vc hv; unfold exec1; rw [hop] at hv ⊢; simp only [hv]
           cases hv : opV c S o.op with
           | none => unfold exec1 at h; rw [hop] at h hv; simp only [hv] at h; cases h
           | some q => exact plain q.1 q.2 hv (red S _ _ hv) red)
    | value f =>
      cases f with
      | func g =>
        rw [hop] at he
        have eL : evL c { S with t := t } args.toList = evL c S args.toList := evL_congr (fun x hx => he x (by have hx' : x ∈ args := (by simpa using hx); simp [Op.operands, Call.operands, hx']))
        unfold exec1 at h ⊢
        rw [hop] at h ⊢
        simp only [eL] at h ⊢
        split at h
        · unfold callX at h ⊢
          split at h
          · rename_i v vc hc
            obtain rfl := Option.some.inj h
            exact ⟨(decT c S.rd o.dst v).1, by cases o.dst <;> rfl, by simp only [hc]; cases o.dst <;> rfl⟩
          · rename_i v m' vc hc
            obtain rfl := Option.some.inj h
            exact ⟨(decT c S.rd o.dst v).1, by cases o.dst <;> rfl, by simp only [hc]; cases o.dst <;> rfl⟩
          · cases h
        · cases h
      | _ => rw [hop] at hs; simp [simpleOp, pureOp] at hs
    | _ => rw [hop] at hs; simp [simpleOp, pureOp] at hs
  | buildSlice ty len parts =>
    rw [hop] at he
    have eF : ∀ (pl : Nat → Option (Nat × Nat)) (cells : List (SV A)), fillV pl c { S with t := t } cells parts.toList = fillV pl c S cells parts.toList := fun pl cells =>
      fillV_congr (fun x hx => he x.2 (by have hx' : x ∈ parts := (by simpa using hx); simp [Op.operands]; exact ⟨x.1, hx'⟩))
    unfold exec1 at h ⊢
    rw [hop] at h ⊢
    simp only [eF] at h ⊢
    repeat' split at h
    all_goals first | (cases h; done) | skip
    obtain rfl := Option.some.inj h
    exact ⟨.val false [.s S.m.length 0 len len], by cases o.dst <;> rfl, by simp only [*]; cases o.dst <;> rfl⟩
  | _ =>
    first
    | (rw [hop] at hs; simp [simpleOp, pureOp] at hs; done)
    | (have red : ∀ (S : St A) tv vc, opV c S o.op = some (tv, vc) → exec1 c S o = some (putT { S with vc := (decT c S.rd o.dst tv).2 ++ (vc ++ S.vc) } o.dst (decT c S.rd o.dst tv).1) := by
        intro S tv vc hv; unfold exec1; rw [hop] at hv ⊢; simp only [hv]
       cases hv : opV c S o.op with
       | none => unfold exec1 at h; rw [hop] at h hv; simp only [hv] at h; cases h
       | some q => exact plain q.1 q.2 hv (red S _ _ hv) red)

/-- A block that a simple operation does not write. -/
theorem exec1_keeps {ad : Ad} {c : Cfg A} (hadd : AddsOK c (Ad.at ad)) {S S' : St A} {o : Oper} {b : Nat} (hs : simpleOp ad o.op = true) (hcl : ∀ cl, o.op = .call cl → ∃ g args ats, cl = { callee := .value (.func g), args := args, argTypes := ats } ∧ Ad.at ad g = true) (hb : b < S.m.length) (hst : ∀ t' y' v', o.op = .store t' y' v' → ∃ tv' k', evO c S y' = some tv' ∧ lookAt tv' = some (some k') ∧ k' ≠ b) (h : exec1 c S o = some S') : nth S'.m b = nth S.m b := by
  have plain : ∀ (op : Op), o.op = op → (∀ (S : St A), exec1 c S o = match opV c S op with | some (v, vc) => some (putT { S with vc := (decT c S.rd o.dst v).2 ++ (vc ++ S.vc) } o.dst (decT c S.rd o.dst v).1) | none => none) → nth S'.m b = nth S.m b := by
    intro op hop hall
    rw [hall] at h
    split at h
    · obtain rfl := Option.some.inj h
      rw [putT_m]
    · cases h
  cases hop : o.op with
  | store ty x y =>
    obtain ⟨tv', k', e, hlk, hne⟩ := hst ty x y hop
    unfold exec1 at h
    rw [hop] at h
    simp only [e] at h
    split at h
    · rename_i xv yv hx hy
      obtain rfl := Option.some.inj hx
      split at h
      · rename_i m' vc' hm
        obtain rfl := Option.some.inj h
        rw [putT_m]
        exact storeV_look hlk hm hne
      · cases h
    · cases h
  | assign x =>
    unfold exec1 at h
    rw [hop] at h
    simp only at h
    split at h
    · split at h
      · obtain rfl := Option.some.inj h
        rw [putT_m]
        exact nth_append_lt hb
      · obtain rfl := Option.some.inj h
        rw [putT_m]
    · cases h
  | convert src dst x =>
    have hne : ¬ src = dst := fun e => by subst e; rw [hop] at hs; simp [simpleOp, pureOp] at hs
    have mk : ∀ S : St A, markV c S src dst x = none := fun S => by
      unfold markV
      split
      · rw [if_neg hne]
      · rfl
    unfold exec1 at h
    rw [hop] at h
    simp only [mk] at h
    split at h
    · obtain rfl := Option.some.inj h
      rw [putT_m]
    · cases h
  | buildSlice ty len parts =>
    unfold exec1 at h
    rw [hop] at h
    simp only at h
    repeat' split at h
    all_goals first | (cases h; done) | skip
    obtain rfl := Option.some.inj h
    rw [putT_m]
    exact nth_append_lt hb
  | call cl =>
    obtain ⟨g, args, ats, rfl, hg⟩ := hcl cl hop
    unfold exec1 at h
    rw [hop] at h
    simp only at h
    split at h
    · unfold callX at h
      split at h
      · obtain rfl := Option.some.inj h
        rw [putT_m]
      · rename_i v m' vc hc
        obtain rfl := Option.some.inj h
        rw [putT_m]
        exact hadd g _ _ _ _ _ hg hc b hb
      · cases h
    · cases h
  | _ =>
    first
    | (rw [hop] at hs; simp [simpleOp, pureOp] at hs; done)
    | (refine plain _ hop (fun S => ?_)
       cases hq : opV c S _ with
       | none => unfold exec1; rw [hop]; simp only [hq]
       | some q => obtain ⟨v, vc⟩ := q; unfold exec1; rw [hop]; simp only [hq])

/-- The tail, while some of the head that look at no memory may still be to come. -/
theorem draw_late {ad : Ad} {c : Cfg A} (hc : CfgOK c) (hadd : AddsOK c (Ad.at ad)) {X : Nat → Prop} {W0 : World} {ops : Array Oper} {r : Option Nat} {n0 n : Nat} {Q : Exit → Act → World → Prop} {t0 T : List (TV A)} {m0 New : Mem A} {st' : St A} (hok : DrawOK ad ops.toList n0 T st'.t m0.length) (hn0 : n0 ≤ ops.size) (hvc : ∀ p ∈ st'.vc, p)
    {rd : Nat} {VC : List Prop} (hVC : ∀ p ∈ VC, p)
    (lexR : ∀ x, (∀ j o, j < n0 → ops.toList[j]? = some o → o.dst ≠ some x) → nth T x = nth t0 x) (lexT : T.length = t0.length)
    (lex : ∀ i o, i < n0 → ops.toList[i]? = some o → ∃ d, o.dst = some d ∧ d < t0.length ∧ ∃ ti, ti.length = t0.length ∧
        (∀ j oj dj, j < i → ops.toList[j]? = some oj → oj.dst = some dj → nth ti dj = nth T dj) ∧
        (∀ x, (∀ j oj, j < i → ops.toList[j]? = some oj → oj.dst ≠ some x) → nth ti x = nth t0 x) ∧ HeadFact c ops.toList m0 rd T New VC i o d ti) :
    ∀ (f k : Nat) (U : List Nat) (listed : Array Bool) (S : St A) (t : List (TV A)) (β : Adr) (a : Act) (W : World), U.length + (ops.size - k) ≤ f → n0 ≤ k → k ≤ ops.size → listed.size = ops.size →
      (∀ j, j < n0 → listed.getD j false = false → j ∈ U ∧ lateB ad ops.toList n0 T st'.t m0.length j = true ∧ (∀ oj ty x tv b, ops.toList[j]? = some oj → oj.op = .load ty (.tmp x) → nth T x = some tv → lookAt tv = some (some b) → b < m0.length → nth S.m b = nth m0 b)) →
      (∀ j, n0 ≤ j → j < ops.size → listed.getD j false = decide (j < k)) →
      (∀ (j : Nat) (o : Oper), ops.toList[j]? = some o → listed.getD j false = true → ∀ e ∈ o.after, Region.binds .any e = true → listed.getD e.on false = true) →
      S.t.length = t0.length → t.length = t0.length → S.rd = rd → (∀ p ∈ S.vc, p) →
      (∀ x, (∀ j o, j < n0 → ops.toList[j]? = some o → listed.getD j false = false → o.dst ≠ some x) → nth t x = nth S.t x) →
      (∀ x, (∀ m om, n0 ≤ m → m < k → ops.toList[m]? = some om → om.dst ≠ some x) → nth S.t x = nth T x) →
      execOps c ops.toList (ops.toList.drop k) S = some st' → TRel β t a → MRel c X W0 β S.m W → Top β S.m → Defs (fun k => W0.heap.size ≤ k ∨ X k) β a.defers → YAll X W0 β c.ys S.pd W →
      (∀ β' a' W', Adr.le β β' → Rel c X W0 β' st' a' W' → Q .normal a' W') →
      wpAnyIn (Fr r) n c.P .any ops Q f listed a W := by
  have back : ∀ (i : Nat) (o : Oper), ops[i]? = some o → ∀ e ∈ o.after, Region.binds .any e = true → e.on < i := fun i o h => hok.back i o (by simpa using h)
  have hnl : n0 ≤ ops.toList.length := by simpa using hn0
  intro f
  induction f with
  | zero =>
    intro k U listed S t β a W hf hnk hk hs hU hl hclosed hS ht hrd hSv hst hSt h htr hm htop hd hy hQ
    have hu : U = [] := List.length_eq_zero_iff.1 (by omega)
    subst hu
    have hall : ∀ j, j < n0 → listed.getD j false = true := fun j hj => by
      cases e : listed.getD j false with
      | true => rfl
      | false => exact absurd (hU j hj e).1 (by simp)
    have hk' : k = ops.size := by omega
    subst hk'
    have et : t = S.t := ext_nth fun x => hst x (fun j o h1 _ h3 => by rw [hall j h1] at h3; cases h3)
    rw [List.drop_of_length_le (by simp)] at h
    simp [execOps] at h
    subst h; subst et
    refine ⟨?_, hQ β a W (Adr.le_refl β) ⟨htr, hm, htop, hd, hy⟩⟩
    apply List.eq_nil_iff_forall_not_mem.2
    intro j hj
    obtain ⟨h1, o, ho, _⟩ := mem_ready.1 hj
    have hjs : j < ops.size := (Array.getElem?_eq_some_iff.1 ho).1
    have h2 := getD_both h1
    rcases Nat.lt_or_ge j n0 with h3 | h3
    · rw [hall j h3] at h2; cases h2
    · rw [hl j h3 hjs] at h2; simp at h2; omega
  | succ f ih =>
    intro k U listed S t β a W hf hnk hk hs hU hl hclosed hS ht hrd hSv hst hSt h htr hm htop hd hy hQ
    by_cases hdone : (∀ j, j < n0 → listed.getD j false = true) ∧ k = ops.size
    · obtain ⟨hall, rfl⟩ := hdone
      have et : t = S.t := ext_nth fun x => hst x (fun j o h1 _ h3 => by rw [hall j h1] at h3; cases h3)
      rw [List.drop_of_length_le (by simp)] at h
      simp [execOps] at h
      subst h; subst et
      have hfull : Region.ready .any ops listed = [] := by
        apply List.eq_nil_iff_forall_not_mem.2
        intro j hj
        obtain ⟨h1, o, ho, _⟩ := mem_ready.1 hj
        have hjs : j < ops.size := (Array.getElem?_eq_some_iff.1 ho).1
        have h2 := getD_both h1
        rcases Nat.lt_or_ge j n0 with h3 | h3
        · rw [hall j h3] at h2; cases h2
        · rw [hl j h3 hjs] at h2; simp at h2; omega
      exact ⟨fun _ => hQ β a W (Adr.le_refl β) ⟨htr, hm, htop, hd, hy⟩, fun i hi => by rw [hfull] at hi; cases hi⟩
    · have hun0 : ∃ i0, i0 < ops.size ∧ listed.getD i0 false = false := by
        by_cases hall : ∀ j, j < n0 → listed.getD j false = true
        · have hks : k < ops.size := by
            rcases Nat.lt_or_ge k ops.size with h' | h'
            · exact h'
            · exact absurd ⟨hall, by omega⟩ hdone
          exact ⟨k, hks, by rw [hl k hnk hks]; simp⟩
        · simp only [Classical.not_forall] at hall
          obtain ⟨i0, h1, h2⟩ := hall
          exact ⟨i0, by omega, by simpa using h2⟩
      obtain ⟨i0, hi0, hi0u⟩ := hun0
      refine ⟨fun e => absurd e (ready_ne back hs i0 hi0 hi0u), fun i hi => ?_⟩
      obtain ⟨hun, o, ho, hedges⟩ := mem_ready.1 hi
      have his : i < ops.size := (Array.getElem?_eq_some_iff.1 ho).1
      have hoL : ops.toList[i]? = some o := by simpa using ho
      have hunf : listed.getD i false = false := getD_both hun
      have hset : ∀ j, (listed.setIfInBounds i true).getD j false = if i = j then true else listed.getD j false := fun j => getD_set _ _ _ (by omega)
      have hclosed' : ∀ (j : Nat) (oj : Oper), ops.toList[j]? = some oj → (listed.setIfInBounds i true).getD j false = true → ∀ e ∈ oj.after, Region.binds .any e = true → (listed.setIfInBounds i true).getD e.on false = true := by
        intro j oj hoj hlj e he hb
        rw [hset] at hlj ⊢
        split
        · rfl
        · split at hlj
          · rename_i hij
            subst hij
            have : oj = o := Option.some.inj (hoj.symm.trans hoL)
            subst this
            exact hedges e he hb
          · exact hclosed j oj hoj hlj e he hb
      -- one of the head that is not listed: the tail's next minds it not
      have ahead : ∀ j oj, j < n0 → ops.toList[j]? = some oj → listed.getD j false = false → LateOK ad ops.toList n0 j T st'.t m0.length oj ∧ (k ≤ lateK ops.toList n0 j) ∧ (k < ops.size → ops.toList[k]? = ops.toList[i]? → i = k → k < lateK ops.toList n0 j) := by
        intro j oj hj hoj hlj
        have hlate := late_spec hnl hoj (hU j hj hlj).2.1
        have hge : k ≤ lateK ops.toList n0 j := by
          rcases Nat.lt_or_ge (lateK ops.toList n0 j) k with h' | h'
          · exfalso
            obtain ⟨ok, g1, g2⟩ := hlate.wait (by simp; omega)
            have hlk : listed.getD (lateK ops.toList n0 j) false = true := by
              rw [hl _ (by have := hlate.ge; omega) (by omega)]; simp [h']
            obtain ⟨e, he, hb, hon⟩ := waits_edge g2
            have := hclosed _ ok g1 hlk e he hb
            rw [hon, hlj] at this
            cases this
          · exact h'
        refine ⟨hlate, hge, fun hks _ hik => ?_⟩
        rcases Nat.lt_or_eq_of_le hge with h' | h'
        · exact h'
        · exfalso
          obtain ⟨ok, g1, g2⟩ := hlate.wait (by simp; omega)
          rw [← h', ← hik] at g1
          have : ok = o := Option.some.inj (g1.symm.trans hoL)
          subst this
          obtain ⟨e, he, hb, hon⟩ := waits_edge g2
          have := hedges e he hb
          rw [hon, hlj] at this
          cases this
      rcases Nat.lt_or_ge i n0 with hin | hge
      · -- a late one of the head
        obtain ⟨hlate, hkge, _⟩ := ahead i o hin hoL hunf
        obtain ⟨d, hdst, hdl, ti, e1, e2, e3, e4⟩ := lex i o hin hoL
        have hlookT : ∀ x ∈ looks ops.toList o, nth t x = nth ti x := by
          intro x hx
          have hTx : nth S.t x = nth T x := hSt x (fun m om h1 h2 h3 h4 => (((hlate.mind m om h1 (by omega) h3).2.2.1 x h4).2 x hx) rfl)
          have htx : nth t x = nth S.t x := hst x (fun j oj g1 g2 g3 g4 => by
            obtain ⟨_, g6⟩ := hok.reads i o x j oj hin hoL hx g1 g2 g4
            obtain ⟨e, he, hb, hon⟩ := waits_edge g6
            have := hedges e he hb
            rw [hon, g3] at this
            cases this)
          rw [htx, hTx]
          by_cases hw : ∃ j oj, j < n0 ∧ ops.toList[j]? = some oj ∧ oj.dst = some x
          · obtain ⟨j, oj, g1, g2, g3⟩ := hw
            obtain ⟨g4, _⟩ := hok.reads i o x j oj hin hoL hx g1 g2 g3
            rw [e2 j oj x g4 g2 g3]
          · have hx' : ∀ j o, j < n0 → ops.toList[j]? = some o → o.dst ≠ some x := fun j o h1 h2 h3 => hw ⟨j, o, h1, h2, h3⟩
            rw [lexR x hx', e3 x (fun j oj h1 h2 => hx' j oj (by omega) h2)]
        have hopd : ∀ y ∈ o.op.operands, evO c ⟨t, S.m, rd, [], []⟩ y = evO c ⟨ti, m0, rd, [], []⟩ y := by
          intro y hyo
          cases y with
          | tmp x =>
            refine hlookT x ?_
            unfold looks
            exact List.mem_append_left _ (List.mem_filterMap.2 ⟨.tmp x, by simpa using hyo, rfl⟩)
          | _ => rfl
        rcases e4 with ⟨ty, cells, hop, _⟩ | ⟨hna, b, hw, hT, hF⟩
        · rcases hlate.pure with this | ⟨_, _, _, _, this, _⟩
          · rw [hop] at this; simp [pureX, pureOp] at this
          · rw [hop] at this; cases this
        · have hb : b = true := by
            have : wants ops.toList ⟨ti, m0, rd, [], []⟩ o = some true := by unfold wants; rw [hlate.guard]
            rw [this] at hw
            exact (Option.some.inj hw).symm
          subst hb
          obtain ⟨v, vc2, hv, hvc2, hvc3, hTd⟩ := hT rfl
          have hvt : opV c ⟨t, S.m, rd, [], []⟩ o.op = some (v, vc2) := by
            rcases hlate.pure with hpu | ⟨ty, x, tx, ko, hop, hTx, hlk, hkb⟩
            · rw [opV_congr (st := ⟨t, S.m, rd, [], []⟩) (st' := ⟨ti, m0, rd, [], []⟩) (fun hp => by rw [hpu] at hp; cases hp) hopd]; exact hv
            · have hmm : ∀ k, ko = some k → nth S.m k = nth m0 k := fun k hk => (hU i hin hunf).2.2 o ty x tx k hoL hop hTx (by rw [hlk, hk]) (hkb k hk).1
              have hex := hopd (.tmp x) (by rw [hop]; simp [Op.operands])
              have htx : evO c ⟨ti, m0, rd, [], []⟩ (.tmp x) = some tx := by
                have hx : x ∈ looks ops.toList o := by
                  unfold looks
                  exact List.mem_append_left _ (List.mem_filterMap.2 ⟨.tmp x, by rw [hop]; simp [Op.operands], rfl⟩)
                show nth ti x = _
                rw [← hTx]
                by_cases hw : ∃ j oj, j < n0 ∧ ops.toList[j]? = some oj ∧ oj.dst = some x
                · obtain ⟨j, oj, g1, g2, g3⟩ := hw
                  obtain ⟨g4, _⟩ := hok.reads i o x j oj hin hoL hx g1 g2 g3
                  rw [e2 j oj x g4 g2 g3]
                · have hx' : ∀ j o, j < n0 → ops.toList[j]? = some o → o.dst ≠ some x := fun j o h1 h2 h3 => hw ⟨j, o, h1, h2, h3⟩
                  rw [lexR x hx', e3 x (fun j oj h1 h2 => hx' j oj (by omega) h2)]
              rw [hop] at hv ⊢
              simp only [opV, hex, htx] at hv ⊢
              rw [loadV_look hlk hmm]
              exact hv
          have hwant : Region.wanted o (yielded ops a.tmps) = true := by simp [Region.wanted, hlate.guard]
          unfold wpOpIn
          simp only [ho]
          rw [if_pos hwant]
          refine opV_sound (r := r) (n := n) hc.calls (st := ⟨t, S.m, rd, [], []⟩) htr hm hvt (fun p hp => hVC p (hvc2 p hp)) _ Q ?_
          rintro u W' ⟨K, hK, hu, hkp⟩
          have hle := Adr.le_know β K
          have hSd : nth S.t d = nth T d := hSt d (fun m om h1 h2 h3 h4 => (((hlate.mind m om h1 (by omega) h3).2.2.1 d h4).1 d hdst) rfl)
          refine ih k (U.erase i) _ S (setN t d (decT c rd (some d) v).1) (β.know K) _ W' ?_ hnk hk (by simpa using hs) ?_ ?_ hclosed' hS (by rw [setN_length]; exact ht) hrd hSv ?_ hSt h ?_ (hm.know hkp hK) htop (by rw [put_defers]; exact hd.mono hle) (hy.kept hle hkp.nc) (fun β' a' W' hle' hr' => hQ β' a' W' (Adr.le_trans hle hle') hr')
          · have := List.length_erase_of_mem (hU i hin hunf).1
            have h0 : 0 < U.length := List.length_pos_of_mem (hU i hin hunf).1
            omega
          · intro j hj hlj
            rw [hset] at hlj
            split at hlj
            · cases hlj
            · rename_i hne
              obtain ⟨g1, g2, g3⟩ := hU j hj hlj
              exact ⟨(List.mem_erase_of_ne (fun e => hne e.symm)).2 g1, g2, g3⟩
          · intro j hj hjs
            rw [hset, if_neg (by omega)]
            exact hl j hj hjs
          · intro x hx
            rw [nth_setN]
            by_cases hxd : d = x
            · subst hxd
              rw [if_pos rfl, if_pos (by rw [ht]; exact hdl), hSd, hTd]
            · rw [if_neg hxd]
              refine hst x (fun j oj g1 g2 g3 g4 => ?_)
              by_cases hij : i = j
              · subst hij
                have : oj = o := Option.some.inj (g2.symm.trans hoL)
                subst this
                exact hxd (Option.some.inj (hdst.symm.trans g4))
              · exact hx j oj g1 g2 (by rw [hset, if_neg hij]; exact g3) g4
          · rw [hdst]
            exact TRel.put (st := ⟨t, S.m, rd, [], []⟩) (d := some d) (htr.mono hle) (decT_is hu (fun p hp => hVC p (hvc3 p hp)))
      · -- the tail's next
        have hki : k ≤ i := by
          rcases Nat.lt_or_ge i k with h' | h'
          · rw [hl i hge his] at hunf; simp at hunf; omega
          · exact h'
        have hik : i = k := by
          rcases Nat.lt_or_ge k i with hlt | hge'
          · exfalso
            have hw := hok.chain i o (by omega) hoL
            obtain ⟨e, he, hb, hon⟩ := waits_edge hw
            have := hedges e he hb
            rw [hon, hl (i - 1) (by omega) (by omega)] at this
            simp at this
            omega
          · omega
        subst hik
        have hd2 : ops.toList.drop i = o :: ops.toList.drop (i + 1) := by
          rw [List.drop_eq_getElem_cons (by simpa using his)]
          congr 1
          obtain ⟨_, e⟩ := List.getElem?_eq_some_iff.1 hoL
          exact e
        rw [hd2] at h
        have hsl : ∀ β' a' W' (S1 : St A) (t1 : List (TV A)), Adr.le β β' → S1.t.length = t0.length → t1.length = t0.length → S1.rd = rd → (∀ p ∈ S1.vc, p) →
            (∀ x, (∀ j o, j < n0 → ops.toList[j]? = some o → listed.getD j false = false → o.dst ≠ some x) → nth t1 x = nth S1.t x) →
            (∀ x, (∀ m om, n0 ≤ m → m < i + 1 → ops.toList[m]? = some om → om.dst ≠ some x) → nth S1.t x = nth T x) →
            execOps c ops.toList (ops.toList.drop (i + 1)) S1 = some st' → TRel β' t1 a' → MRel c X W0 β' S1.m W' → Top β' S1.m → Defs (fun k => W0.heap.size ≤ k ∨ X k) β' a'.defers → YAll X W0 β' c.ys S1.pd W' →
            (∀ j, j < n0 → listed.getD j false = false → ∀ oj ty x tv b, ops.toList[j]? = some oj → oj.op = .load ty (.tmp x) → nth T x = some tv → lookAt tv = some (some b) → b < m0.length → nth S1.m b = nth m0 b) →
            wpAnyIn (Fr r) n c.P .any ops Q f (listed.setIfInBounds i true) a' W' := by
          intro β' a' W' S1 t1 hle g1 g2 g3 g4 g5 g6 g7 g8 g9 g10 g11 g12 g13
          refine ih (i + 1) U _ S1 t1 β' a' W' (by omega) (by omega) (by omega) (by simpa using hs) (fun j hj hlj => ?_) (fun j hj hjs => ?_) hclosed' g1 g2 g3 g4 (fun x hx => g5 x (fun j oj k1 k2 k3 => hx j oj k1 k2 (by rw [hset, if_neg (by omega)]; exact k3))) g6 g7 g8 g9 g10 g11 g12 (fun β'' a'' W'' hle' hr'' => hQ β'' a'' W'' (Adr.le_trans hle hle') hr'')
          · rw [hset, if_neg (by omega)] at hlj
            obtain ⟨g1, g2, _⟩ := hU j hj hlj
            exact ⟨g1, g2, g13 j hj hlj⟩
          · rw [hset]
            by_cases e : i = j
            · subst e; simp
            · rw [if_neg e, hl j hj hjs]
              congr 1
              simp only [eq_iff_iff]
              omega
        by_cases hall : ∀ j, j < n0 → listed.getD j false = true
        · -- none is left
          have et : t = S.t := ext_nth fun x => hst x (fun j o h1 _ h3 => by rw [hall j h1] at h3; cases h3)
          subst et
          have hlen : ∀ st1 : St A, (∃ rest, execOps c ops.toList (o :: rest) S = some st' ∧ True) → True := fun _ _ => trivial
          clear hlen
          simp only [execOps] at h
          have hRel : Rel c X W0 β S a W := ⟨htr, hm, htop, hd, hy⟩
          unfold wpOpIn
          simp only [ho]
          split at h
          · rename_i hw
            split at h
            · rename_i st1 h1
              have hv1 : ∀ p ∈ st1.vc, p := fun p hp => hvc p (execOps_vc h p hp)
              have hwant := wants_is (ops := ops) hRel.t hw
              rw [if_pos hwant]
              refine exec1_sound (r := r) (n := n) hc hRel h1 hv1 _ Q ?_
              rintro v W' ⟨β', hle, hr'⟩
              have hshape := exec1_shape h1
              refine hsl β' _ W' st1 st1.t hle (by rw [hshape.1]; exact hS) (by rw [hshape.1]; exact hS) (by rw [hshape.2.1]; exact hrd) hv1 (fun _ _ => rfl) (fun x hx => ?_) h hr'.t hr'.m hr'.top hr'.d hr'.y (fun j hj hlj => by rw [hall j hj] at hlj; cases hlj)
              rw [hshape.2.2 x (fun e => hx i o (by omega) (by omega) hoL e)]
              exact hSt x (fun m om k1 k2 k3 => hx m om k1 (by omega) k3)
            · cases h
          · rename_i hw
            have hwant := wants_is (ops := ops) hRel.t hw
            rw [if_neg (by rw [hwant]; simp)]
            refine ⟨fun _ _ => trivial, hsl β _ _ (putT S o.dst undefT) (putT S o.dst undefT).t (Adr.le_refl β) ?_ ?_ (by rw [putT_rd]; exact hrd) (by rw [putT_vc]; exact hSv) (fun _ _ => rfl) (fun x hx => ?_) h (TRel.put htr (undefT_is β)) (by rw [putT_m]; exact hm) (by rw [putT_m]; exact htop) (by rw [put_defers]; exact hd) (by rw [putT_pd]; exact hy) (fun j hj hlj => by rw [hall j hj] at hlj; cases hlj)⟩
            · cases o.dst <;> simp [putT, setN_length, hS]
            · cases o.dst <;> simp [putT, setN_length, hS]
            · have hne : o.dst ≠ some x := fun e => hx i o (by omega) (by omega) hoL e
              rw [putT_nth]
              have h2 := hSt x (fun m om k1 k2 k3 => hx m om k1 (by omega) k3)
              cases hdo : o.dst with
              | none => exact h2
              | some d =>
                rw [hdo] at hne
                have : d ≠ x := fun e => hne (by rw [e])
                simp only [this, if_false]
                exact h2
          · cases h
        · -- some are left: what comes up minds them not
          simp only [Classical.not_forall] at hall
          obtain ⟨j0, hj0, hlj0⟩ := hall
          have hlj0 : listed.getD j0 false = false := by simpa using hlj0
          obtain ⟨oj0, hoj0⟩ : ∃ oj, ops.toList[j0]? = some oj := ⟨_, List.getElem?_eq_getElem (by simp; omega)⟩
          obtain ⟨hlate0, _, hlt0⟩ := ahead j0 oj0 hj0 hoj0 hlj0
          obtain ⟨hsimple, hguard, _, _⟩ := hlate0.mind i o (by omega) (hlt0 his rfl rfl) hoL
          have hlook : ∀ x ∈ looks ops.toList o, nth t x = nth S.t x := by
            intro x hx
            refine hst x (fun j oj g1 g2 g3 g4 => ?_)
            obtain ⟨hlj, _, hltj⟩ := ahead j oj g1 g2 g3
            exact (hlj.mind i o (by omega) (hltj his rfl rfl) hoL).2.2.2 x g4 x hx rfl
          have hopd : ∀ y ∈ o.op.operands, evO c { S with t := t } y = evO c S y := by
            intro y hyo
            cases y with
            | tmp x =>
              refine hlook x ?_
              unfold looks
              exact List.mem_append_left _ (List.mem_filterMap.2 ⟨.tmp x, by simpa using hyo, rfl⟩)
            | _ => rfl
          have hwS : wants ops.toList S o = some true := by unfold wants; rw [hguard]
          simp only [execOps, hwS] at h
          split at h
          · rename_i st1 h1
            have hv1 : ∀ p ∈ st1.vc, p := fun p hp => hvc p (execOps_vc h p hp)
            obtain ⟨v, q1, q2⟩ := exec1_congr (t := t) hsimple hopd h1
            have hRel : Rel c X W0 β { S with t := t } a W := ⟨htr, hm, htop, hd, hy⟩
            have hwant : Region.wanted o (yielded ops a.tmps) = true := by simp [Region.wanted, hguard]
            unfold wpOpIn
            simp only [ho]
            rw [if_pos hwant]
            refine exec1_sound (r := r) (n := n) hc hRel q2 (fun p hp => hv1 p (by rw [putT_vc] at hp; exact hp)) _ Q ?_
            rintro u W' ⟨β', hle, hr'⟩
            have hshape := exec1_shape h1
            have hm' := hr'.m
            have htop' := hr'.top
            have hy' := hr'.y
            rw [putT_m] at hm' htop'
            rw [putT_pd] at hy'
            refine hsl β' _ W' st1 _ hle (by rw [hshape.1]; exact hS) (by cases o.dst <;> simp [putT, setN_length, ht]) (by rw [hshape.2.1]; exact hrd) hv1 (fun x hx => ?_) (fun x hx => ?_) h hr'.t hm' htop' hr'.d hy' (fun j hj hlj oj ty x tx b hoj hop hTx hlk hb => ?_)
            · rw [q1]
              simp only [putT_nth]
              have hxx := hst x hx
              cases hdo : o.dst with
              | none => exact hxx
              | some d => simp only [ht, hS, hxx]
            · rw [hshape.2.2 x (fun e => hx i o (by omega) (by omega) hoL e)]
              exact hSt x (fun m om k1 k2 k3 => hx m om k1 (by omega) k3)
            · have hSm := (hU j hj hlj).2.2 oj ty x tx b hoj hop hTx hlk hb
              obtain ⟨hlj2, _, hltj⟩ := ahead j oj hj hoj hlj
              have hik := hltj his rfl rfl
              have hbl : b < S.m.length := by
                cases hk : nth m0 b with
                | none => rw [nth_eq, List.getElem?_eq_none_iff] at hk; omega
                | some q => rw [hk] at hSm; exact nth_lt hSm
              rcases hlj2.pure with hpu | ⟨_, x2, tx2, k2, hop2, hTx2, hlk2, hall2⟩
              · rw [hop] at hpu; simp [pureX, pureOp] at hpu
              · rw [hop] at hop2
                injection hop2 with _ hx2
                injection hx2 with hx2
                subst hx2
                rw [hTx] at hTx2
                obtain rfl := Option.some.inj hTx2
                rw [hlk] at hlk2
                obtain rfl := Option.some.inj hlk2
                obtain ⟨hnc, hst2⟩ := (hall2 b rfl).2 i o (by omega) hik hoL
                rw [exec1_keeps hadd hsimple hnc hbl (fun t' y' v' hst' => ?_) h1, hSm]
                obtain ⟨y, tv', k', hy', hTy, hlk', hne, hds⟩ := hst2 t' y' v' hst'
                subst hy'
                refine ⟨tv', k', ?_, hlk', hne⟩
                show nth S.t y = _
                rw [← hshape.2.2 y (hds i o (Nat.le_refl i) hoL), ← execOps_frame h (fun om hom => by
                  obtain ⟨q, hq⟩ := List.getElem?_of_mem hom
                  rw [List.getElem?_drop] at hq
                  exact hds _ om (by omega) hq), hTy]
          · cases h

/-- In the midst of a head: what the frame and the memory are when the listed operations have come up. -/
structure Mid (c : Cfg A) (X : Nat → Prop) (W0 : World) (L : List Oper) (n : Nat) (t0 : List (TV A)) (m0 : Mem A) (T : List (TV A)) (New : Mem A) (pd : Pds) (β0 : Adr) (listed : Array Bool) (a : Act) (W : World)
    (t : List (TV A)) (m : Mem A) (β : Adr) : Prop where
  trel : TRel β t a
  dfs : Defs (fun k => W0.heap.size ≤ k ∨ X k) β a.defers
  mrel : MRel c X W0 β m W
  top : Top β m
  len : t.length = t0.length
  done : ∀ j o d, j < n → L[j]? = some o → o.dst = some d → listed.getD j false = true → nth t d = nth T d
  rest : ∀ x, (∀ j o, j < n → L[j]? = some o → listed.getD j false = true → o.dst ≠ some x) → nth t x = nth t0 x
  mlen : m.length = m0.length + cnt L n
  old : ∀ k, k < m0.length → nth m k = nth m0 k
  laid : ∀ j o, j < n → L[j]? = some o → isAlloc o.op = true → listed.getD j false = true → nth m (m0.length + cnt L j) = nth New (cnt L j)
  free : ∀ j o, j < n → L[j]? = some o → isAlloc o.op = true → listed.getD j false = false → nth m (m0.length + cnt L j) = some none ∧ β (m0.length + cnt L j) = none
  le : Adr.le β0 β
  y : YAll X W0 β c.ys pd W

theorem draw_head {ad : Ad} {c : Cfg A} (hc : CfgOK c) (hadd : AddsOK c (Ad.at ad)) {X : Nat → Prop} {W0 : World} {ops : Array Oper} {r : Option Nat} {n0 n : Nat} {Q : Exit → Act → World → Prop} {t0 T : List (TV A)} {m0 New : Mem A} {st' : St A} (hok : DrawOK ad ops.toList n0 T st'.t m0.length) (hn0 : n0 ≤ ops.size)
    {rd : Nat} {pd : Pds} {VC : List Prop} {β0 : Adr} (hvc : ∀ p ∈ st'.vc, p) (hVC : ∀ p ∈ VC, p)
    (lexT : T.length = t0.length) (lexN : New.length = cnt ops.toList n0)
    (lexR : ∀ x, (∀ j o, j < n0 → ops.toList[j]? = some o → o.dst ≠ some x) → nth T x = nth t0 x)
    (lex : ∀ i o, i < n0 → ops.toList[i]? = some o → ∃ d, o.dst = some d ∧ d < t0.length ∧ ∃ ti, ti.length = t0.length ∧
        (∀ j oj dj, j < i → ops.toList[j]? = some oj → oj.dst = some dj → nth ti dj = nth T dj) ∧
        (∀ x, (∀ j oj, j < i → ops.toList[j]? = some oj → oj.dst ≠ some x) → nth ti x = nth t0 x) ∧ HeadFact c ops.toList m0 rd T New VC i o d ti)
    (h : execOps c ops.toList (ops.toList.drop n0) ⟨T, m0 ++ New, rd, VC, pd⟩ = some st')
    (hQ : ∀ β' a' W', Adr.le β0 β' → Rel c X W0 β' st' a' W' → Q .normal a' W') :
    ∀ (f : Nat) (U : List Nat) (listed : Array Bool) (a : Act) (W : World) (t : List (TV A)) (m : Mem A) (β : Adr), U.length + (ops.size - n0) ≤ f → listed.size = ops.size →
      (∀ j, j < n0 → listed.getD j false = false → j ∈ U) → (∀ j, n0 ≤ j → j < ops.size → listed.getD j false = false) →
      (∀ (j : Nat) (o : Oper), j < n0 → ops.toList[j]? = some o → listed.getD j false = true → ∀ e ∈ o.after, Region.binds .any e = true → listed.getD e.on false = true) →
      Mid c X W0 ops.toList n0 t0 m0 T New pd β0 listed a W t m β → wpAnyIn (Fr r) n c.P .any ops Q f listed a W := by
  have back : ∀ (i : Nat) (o : Oper), ops[i]? = some o → ∀ e ∈ o.after, Region.binds .any e = true → e.on < i := fun i o h => hok.back i o (by simpa using h)
  have hnl : n0 ≤ ops.toList.length := by simpa using hn0
  -- what may not be late has come up
  have go : ∀ (f : Nat) (U : List Nat) (listed : Array Bool) (a : Act) (W : World) (t : List (TV A)) (m : Mem A) (β : Adr), U.length + (ops.size - n0) ≤ f → listed.size = ops.size →
      (∀ j, j < n0 → listed.getD j false = false → j ∈ U) → (∀ j, n0 ≤ j → j < ops.size → listed.getD j false = false) →
      (∀ (j : Nat) (o : Oper), j < n0 → ops.toList[j]? = some o → listed.getD j false = true → ∀ e ∈ o.after, Region.binds .any e = true → listed.getD e.on false = true) →
      Mid c X W0 ops.toList n0 t0 m0 T New pd β0 listed a W t m β → (∀ j, j < n0 → listed.getD j false = false → lateB ad ops.toList n0 T st'.t m0.length j = true) → wpAnyIn (Fr r) n c.P .any ops Q f listed a W := by
    intro f U listed a W t m β hf hs hU htail hclosed mid hneed
    have em : m = m0 ++ New := ext_nth fun k => by
      rcases Nat.lt_or_ge k m0.length with hk | hk
      · rw [mid.old k hk, nth_append_lt hk]
      · rcases Nat.lt_or_ge k (m0.length + cnt ops.toList n0) with hk2 | hk2
        · obtain ⟨j, o, h1, h2, h3, h4⟩ := cnt_surj (l := ops.toList) (n := n0) (s := k - m0.length) (by omega)
          have hlj : listed.getD j false = true := by
            cases e : listed.getD j false with
            | true => rfl
            | false =>
              rcases (late_spec hnl h2 (hneed j h1 e)).pure with this | ⟨_, _, _, _, this, _⟩
              · cases hop : o.op <;> rw [hop] at this h3 <;> first | (simp [pureX, pureOp] at this; done) | (simp [isAlloc] at h3; done)
              · rw [this] at h3; simp [isAlloc] at h3
          have := mid.laid j o h1 h2 h3 hlj
          rw [h4, show m0.length + (k - m0.length) = k by omega] at this
          rw [this, nth_eq, nth_eq, List.getElem?_append_right hk]
        · have e1 := mid.mlen
          rw [nth_eq, nth_eq, List.getElem?_eq_none (by omega), List.getElem?_eq_none (by simp; omega)]
    subst em
    refine draw_late hc hadd hok hn0 hvc hVC lexR lexT lex f n0 U listed ⟨T, m0 ++ New, rd, VC, pd⟩ t β a W hf (Nat.le_refl _) hn0 hs (fun j hj hlj => ⟨hU j hj hlj, hneed j hj hlj, fun _ _ _ _ _ _ _ _ hb hb2 => nth_append_lt hb2⟩) (fun j hj hjs => ?_) (fun j oj hoj hlj => ?_) lexT mid.len rfl hVC (fun x hx => ?_) (fun x _ => rfl) h mid.trel mid.mrel mid.top mid.dfs mid.y (fun β' a' W' hle hr => hQ β' a' W' (Adr.le_trans mid.le hle) hr)
    · rw [htail j hj hjs]; simp; omega
    · rcases Nat.lt_or_ge j n0 with hj | hj
      · exact hclosed j oj hj hoj hlj
      · have hjs : j < ops.size := by have := (List.getElem?_eq_some_iff.1 hoj).1; simpa using this
        rw [htail j hj hjs] at hlj
        cases hlj
    · by_cases hw : ∃ j o, j < n0 ∧ ops.toList[j]? = some o ∧ o.dst = some x
      · obtain ⟨j, o, h1, h2, h3⟩ := hw
        refine mid.done j o x h1 h2 h3 ?_
        cases e : listed.getD j false with
        | true => rfl
        | false => exact absurd h3 (hx j o h1 h2 e)
      · have hx' : ∀ j o, j < n0 → ops.toList[j]? = some o → o.dst ≠ some x := fun j o h1 h2 h3 => hw ⟨j, o, h1, h2, h3⟩
        rw [mid.rest x (fun j o h1 h2 _ => hx' j o h1 h2), lexR x hx']
  intro f
  induction f with
  | zero =>
    intro U listed a W t m β hf hs hU htail hclosed mid
    have hu : U = [] := List.length_eq_zero_iff.1 (by omega)
    exact go 0 U listed a W t m β hf hs hU htail hclosed mid (fun j hj e => absurd (hU j hj e) (by rw [hu]; simp))
  | succ f ih =>
    intro U listed a W t m β hf hs hU htail hclosed mid
    by_cases hall : ∀ j, j < n0 → listed.getD j false = false → lateB ad ops.toList n0 T st'.t m0.length j = true
    · exact go (f + 1) U listed a W t m β hf hs hU htail hclosed mid hall
    · have hall' : ∃ i0, i0 < n0 ∧ listed.getD i0 false = false ∧ lateB ad ops.toList n0 T st'.t m0.length i0 = false := by
        simp only [Classical.not_forall] at hall
        obtain ⟨i0, h1, h2, h3⟩ := hall
        exact ⟨i0, h1, h2, by simpa using h3⟩
      obtain ⟨i0, hi0, hun0, hneed0⟩ := hall'
      refine ⟨fun e => absurd e (ready_ne back hs i0 (by omega) hun0), fun i hi => ?_⟩
      obtain ⟨hun, o, ho, hedges⟩ := mem_ready.1 hi
      have his : i < ops.size := (Array.getElem?_eq_some_iff.1 ho).1
      have hoL : ops.toList[i]? = some o := by simpa using ho
      -- no operation of the tail comes up while one of the head has not
      have hin : i < n0 := by
        rcases Nat.lt_or_ge i n0 with hlt | hge
        · exact hlt
        · exfalso
          rcases Nat.lt_or_ge n0 i with hgt | hle
          · obtain ⟨e, he, hb, hon⟩ := waits_edge (hok.chain i o hgt hoL)
            have := hedges e he hb
            rw [hon, htail (i - 1) (by omega) (by omega)] at this
            cases this
          · have hin : i = n0 := by omega
            have key : ∀ dd i1, n0 - i1 = dd → i1 < n0 → listed.getD i1 false = false → lateB ad ops.toList n0 T st'.t m0.length i1 = false → False := by
              intro dd
              induction dd using Nat.strongRecOn with
              | _ dd ihd =>
                intro i1 hdd h1 h2 hl2
                obtain ⟨j, oj, g1, g2, g5, g3, g4⟩ := hok.sink (by simpa using (by omega : n0 < ops.size)) i1 h1 hl2
                obtain ⟨e, he, hb, hon⟩ := waits_edge g4
                by_cases hjn : j = n0
                · subst hjn
                  have : oj = o := by
                    rw [← hin] at g3
                    exact Option.some.inj (g3.symm.trans hoL)
                  subst this
                  have := hedges e he hb
                  rw [hon, h2] at this
                  cases this
                · cases hlj : listed.getD j false with
                  | true =>
                    have := hclosed j oj (by omega) g3 hlj e he hb
                    rw [hon, h2] at this
                    cases this
                  | false => exact ihd (n0 - j) (by omega) j rfl (by omega) hlj (g5.resolve_left hjn)
            exact key _ i0 rfl hi0 hun0 hneed0
      have hunf : listed.getD i false = false := getD_both hun
      obtain ⟨d, hd, hdl, ti, e1, e2, e3, e4⟩ := lex i o hin hoL
      -- what it looks at is there
      have hlook : ∀ x ∈ looks ops.toList o, nth t x = nth ti x := by
        intro x hx
        by_cases hw : ∃ j oj, j < n0 ∧ ops.toList[j]? = some oj ∧ oj.dst = some x
        · obtain ⟨j, oj, g1, g2, g3⟩ := hw
          obtain ⟨g4, g5⟩ := hok.reads i o x j oj hin hoL hx g1 g2 g3
          obtain ⟨e, he, hb, hon⟩ := waits_edge g5
          have hlj := hedges e he hb
          rw [hon] at hlj
          rw [mid.done j oj x g1 g2 g3 hlj, e2 j oj x g4 g2 g3]
        · have hx' : ∀ j o, j < n0 → ops.toList[j]? = some o → o.dst ≠ some x := fun j o h1 h2 h3 => hw ⟨j, o, h1, h2, h3⟩
          rw [mid.rest x (fun j o h1 h2 _ => hx' j o h1 h2), e3 x (fun j oj h1 h2 => hx' j oj (by omega) h2)]
      have hopd : ∀ y ∈ o.op.operands, evO c ⟨t, m0, rd, [], []⟩ y = evO c ⟨ti, m0, rd, [], []⟩ y := by
        intro y hy
        cases y with
        | tmp x =>
          refine hlook x ?_
          unfold looks
          exact List.mem_append_left _ (List.mem_filterMap.2 ⟨.tmp x, by simpa using hy, rfl⟩)
        | _ => rfl
      have hguard : ∀ j w oj d', o.guard = some (j, w) → nth ops.toList j = some oj → oj.dst = some d' → nth t d' = nth ti d' := by
        intro j w oj d' g1 g2 g3
        refine hlook d' ?_
        unfold looks
        refine List.mem_append_right _ ?_
        rw [g1]
        simp only [g2, g3]
        simp
      have hold0 : ∀ {k : Nat} {x : Option (Blk A)}, nth m0 k = some x → nth m k = some x := fun hk => by rw [mid.old _ (nth_lt hk)]; exact hk
      have hm0 : MRel c X W0 β m0 W := mid.mrel.live (fun k blk hk => hold0 hk)
      -- what stands behind it, once its value is in its slot
      have next : ∀ (v : TV A) (u : Value) (W' : World) (m' : Mem A) (β' : Adr), Adr.le β β' → v.Is β' u → nth T d = some v → MRel c X W0 β' m' W' → Top β' m' → m'.length = m.length → (∀ k, k < m0.length → nth m' k = nth m k) → NC W W' →
          (∀ j o', j < n0 → ops.toList[j]? = some o' → isAlloc o'.op = true → j ≠ i → nth m' (m0.length + cnt ops.toList j) = nth m (m0.length + cnt ops.toList j) ∧ β' (m0.length + cnt ops.toList j) = β (m0.length + cnt ops.toList j)) →
          (isAlloc o.op = true → nth m' (m0.length + cnt ops.toList i) = nth New (cnt ops.toList i)) →
          wpAnyIn (Fr r) n c.P .any ops Q f (listed.setIfInBounds i true) (a.put o.dst u) W' := by
        intro v u W' m' β' hle hvu hTd hm' htop' hml hold hnc hoth hself
        have hset : ∀ j, (listed.setIfInBounds i true).getD j false = if i = j then true else listed.getD j false := fun j => getD_set _ _ _ (by omega)
        refine ih (U.erase i) _ _ W' (setN t d v) m' β' ?_ (by simpa using hs) ?_ ?_ ?_ ?_
        · have := List.length_erase_of_mem (hU i hin hunf)
          have h0 : 0 < U.length := List.length_pos_of_mem (hU i hin hunf)
          omega
        · intro j hj hlj
          rw [hset] at hlj
          split at hlj
          · cases hlj
          · rename_i hne
            exact (List.mem_erase_of_ne (fun e => hne e.symm)).2 (hU j hj hlj)
        · intro j hj hjs
          rw [hset, if_neg (by omega)]
          exact htail j hj hjs
        · intro j oj hj hoj hlj e he hb
          rw [hset] at hlj ⊢
          split
          · rfl
          · split at hlj
            · rename_i hij
              subst hij
              have : oj = o := Option.some.inj (hoj.symm.trans hoL)
              subst this
              exact hedges e he hb
            · exact hclosed j oj hj hoj hlj e he hb
        · have ht' : TRel β' t a := mid.trel.mono hle
          refine ⟨?_, by rw [put_defers]; exact mid.dfs.mono hle, hm', htop', by rw [setN_length]; exact mid.len, ?_, ?_, by rw [hml]; exact mid.mlen, fun k hk => by rw [hold k hk, mid.old k hk], ?_, ?_, Adr.le_trans mid.le hle, mid.y.kept hle hnc⟩
          · rw [hd]
            exact TRel.put (st := ⟨t, m0, rd, [], []⟩) (d := some d) ht' hvu
          · intro j oj dj hj hoj hdj hlj
            rw [nth_setN]
            by_cases hjd : d = dj
            · subst hjd
              rw [if_pos rfl, if_pos (by rw [mid.len]; exact hdl), hTd]
            · rw [if_neg hjd]
              rw [hset] at hlj
              split at hlj
              · rename_i hij
                subst hij
                have : oj = o := Option.some.inj (hoj.symm.trans hoL)
                subst this
                exact absurd (Option.some.inj (hd.symm.trans hdj)) hjd
              · exact mid.done j oj dj hj hoj hdj hlj
          · intro x hx
            rw [nth_setN, if_neg]
            · refine mid.rest x (fun j oj hj hoj hlj => hx j oj hj hoj ?_)
              rw [hset]
              split
              · rfl
              · exact hlj
            · intro e
              subst e
              exact hx i o hin hoL (by rw [hset, if_pos rfl]) hd
          · intro j oj hj hoj haj hlj
            by_cases hij : j = i
            · subst hij
              have : oj = o := Option.some.inj (hoj.symm.trans hoL)
              subst this
              exact hself haj
            · rw [(hoth j oj hj hoj haj hij).1]
              rw [hset, if_neg (fun e => hij e.symm)] at hlj
              exact mid.laid j oj hj hoj haj hlj
          · intro j oj hj hoj haj hlj
            rw [hset] at hlj
            split at hlj
            · cases hlj
            · rename_i hne
              rw [(hoth j oj hj hoj haj (fun e => hne e.symm)).1, (hoth j oj hj hoj haj (fun e => hne e.symm)).2]
              exact mid.free j oj hj hoj haj hlj
      unfold wpOpIn
      simp only [ho]
      rcases e4 with ⟨ty, cells, hop, hg, hz, hNew, hTd⟩ | ⟨hna, b, hw, hT, hF⟩
      · -- a new block
        have hwant : Region.wanted o (yielded ops a.tmps) = true := by simp [Region.wanted, hg]
        rw [if_pos hwant]
        have ha : isAlloc o.op = true := by rw [hop]; rfl
        obtain ⟨hfree1, hfree2⟩ := mid.free i o hin hoL ha hunf
        obtain ⟨z, hz1, hz2⟩ := run_zeroT (P := c.P) (w := W) (β := β) hz
        have hslot : m0.length + cnt ops.toList i < m.length := nth_lt hfree1
        refine yld_value (r := r) (n := n) (P := c.P) (v := .pointer (some ⟨W.heap.size, 0, none⟩)) (W := W) (W' := W.alloc (.cells z.cells ty)) (post := fun v W' => v = .pointer (some ⟨W.heap.size, 0, none⟩) ∧ W' = W.alloc (.cells z.cells ty)) (by simp [hop]) ?_ ⟨rfl, rfl⟩ _ Q ?_
        · simp [execOp, hop, Instr.alloc, hz1, newVar, newRow]
        · rintro v W' ⟨rfl, rfl⟩
          have hmm := mid.mrel.alloc (t := ty) (m' := setN m (m0.length + cnt ops.toList i) (some ⟨cells, ty, false⟩)) hfree2 hz2 (fun k blk hk => by
            rw [nth_setN] at hk
            by_cases hki : m0.length + cnt ops.toList i = k
            · rw [if_pos hki, if_pos hslot] at hk
              simp at hk
              exact .inl ⟨hki.symm, hk.symm⟩
            · rw [if_neg hki] at hk
              exact .inr ⟨fun e => hki e.symm, hk⟩)
          refine next (.val false [.p (m0.length + cnt ops.toList i) 0]) _ _ (setN m (m0.length + cnt ops.toList i) (some ⟨cells, ty, false⟩)) (β.put (m0.length + cnt ops.toList i) W.heap.size) (Adr.le_put hfree2) ?_ hTd (by simpa using hmm) ?_ (setN_length _ _ _) ?_ (Keeps.alloc W _).nc ?_ ?_
          · exact LIs.of_single ⟨W.heap.size, by simp [Adr.put_at], rfl⟩
          · intro k hk
            rw [setN_length] at hk
            refine ⟨?_, (mid.top k hk).2⟩
            rw [Adr.put_at, if_neg (by omega)]
            exact (mid.top k hk).1
          · intro k hk
            rw [nth_setN, if_neg (by omega)]
          · intro j oj hj hoj haj hji
            have hne : cnt ops.toList j ≠ cnt ops.toList i := by
              rcases Nat.lt_or_ge j i with hlt | hge
              · have := cnt_lt hoj haj hlt; omega
              · have := cnt_lt hoL ha (by omega : i < j); omega
            constructor
            · rw [nth_setN, if_neg (by omega)]
            · rw [Adr.put_at, if_neg (by omega)]
          · intro _
            rw [nth_setN, if_pos rfl, if_pos hslot, hNew]
      · have hwt : wants ops.toList ⟨t, m0, rd, [], []⟩ o = some b := by
          rw [wants_congr (st := ⟨t, m0, rd, [], []⟩) (st' := ⟨ti, m0, rd, [], []⟩) hguard]; exact hw
        have hwant := wants_is (ops := ops) (st := ⟨t, m0, rd, [], []⟩) mid.trel hwt
        have hoth0 : ∀ j o', j < n0 → ops.toList[j]? = some o' → isAlloc o'.op = true → j ≠ i → nth m (m0.length + cnt ops.toList j) = nth m (m0.length + cnt ops.toList j) ∧ β (m0.length + cnt ops.toList j) = β (m0.length + cnt ops.toList j) := fun _ _ _ _ _ _ => ⟨rfl, rfl⟩
        cases b with
        | true =>
          rw [if_pos hwant]
          obtain ⟨v, vc2, hv, hvc2, hvc3, hTd⟩ := hT rfl
          have hvt : opV c ⟨t, m0, rd, [], []⟩ o.op = some (v, vc2) := by
            rw [opV_congr (st := ⟨t, m0, rd, [], []⟩) (st' := ⟨ti, m0, rd, [], []⟩) (fun _ => rfl) hopd]; exact hv
          refine opV_sound (r := r) (n := n) hc.calls (st := ⟨t, m0, rd, [], []⟩) mid.trel hm0 hvt (fun p hp => hVC p (hvc2 p hp)) _ Q ?_
          rintro u W' ⟨K, hK, hu, hk⟩
          exact next _ u W' m (β.know K) (Adr.le_know β K) (decT_is hu (fun p hp => hVC p (hvc3 p hp))) hTd (mid.mrel.know hk hK) mid.top rfl (fun _ _ => rfl) hk.nc (fun _ _ _ _ _ _ => ⟨rfl, rfl⟩) (fun e => by rw [hna] at e; cases e)
        | false =>
          rw [if_neg (by rw [hwant]; simp)]
          exact ⟨fun _ _ => trivial, next undefT undef W m β (Adr.le_refl β) (undefT_is β) (hF rfl) mid.mrel mid.top rfl (fun _ _ => rfl) (NC.refl W) hoth0 (fun e => by rw [hna] at e; cases e)⟩

theorem headLen_le (l : List Oper) : headLen l ≤ l.length := by
  induction l with
  | nil => exact Nat.le_refl _
  | cons o l ih => unfold headLen; split <;> simp; omega

theorem execHead_vc {c : Cfg A} {ops : List Oper} {m0 : Mem A} {rd : Nat} : ∀ {l : List Oper} {t : List (TV A)} {new : Mem A} {vc : List Prop} {T New VC}, execHead c ops m0 rd l t new vc = some (T, New, VC) → ∀ p ∈ vc, p ∈ VC
  | [], t, new, vc, T, New, VC, h => by simp [execHead] at h; obtain ⟨_, _, rfl⟩ := h; exact fun _ h => h
  | o :: rest, t, new, vc, T, New, VC, h => by
    simp only [execHead] at h
    split at h
    · cases h
    · split at h
      · split at h
        · split at h
          · exact execHead_vc h
          · cases h
        · split at h
          · split at h
            · intro p hp; exact execHead_vc h p (by simp [hp])
            · cases h
          · exact execHead_vc h
          · cases h
      · cases h

theorem execDrawN_vc {ad : Ad} {hd : Nat} {c : Cfg A} {ops : List Oper} {st st' : St A} (h : execDrawN ad hd c ops st = some st') : ∀ p ∈ st.vc, p ∈ st'.vc := by
  simp only [execDrawN] at h
  split at h
  · rename_i t new vc hh
    split at h
    · rename_i z hz
      split at h
      · obtain rfl := Option.some.inj h
        intro p hp
        exact execOps_vc hz p (execHead_vc hh p hp)
      · cases h
    · cases h
  · cases h

/-- A region that draws its order. -/
theorem execDrawN_sound {ad : Ad} {hd : Nat} {c : Cfg A} (hc : CfgOK c) (hadd : AddsOK c (Ad.at ad)) {X : Nat → Prop} {W0 W : World} {ops : Array Oper} {id : Nat} {r : Option Nat} {n : Nat} {Q : Exit → Act → World → Prop} {st st' : St A} {β : Adr} {a : Act}
    (hle : hd ≤ ops.toList.length) (h : execDrawN ad hd c ops.toList st = some st') (hvc : ∀ p ∈ st'.vc, p) (hr : Rel c X W0 β st a W) (hQ : ∀ β' a' W', Adr.le β β' → Rel c X W0 β' st' a' W' → Q .normal a' W') :
    c.P.follows .mixedOrders = true ∧ wpAnyIn (Fr r) n c.P .any ops Q ops.size (Array.replicate ops.size false) a { W with drawn := W.drawn + 1 } := by
  unfold execDrawN at h
  split at h
  · rename_i T New VC hh
    split at h
    case h_2 => cases h
    rename_i z hz
    split at h
    · rename_i hb
      obtain rfl := Option.some.inj h
      replace h := hz
      rw [Bool.and_eq_true] at hb
      have hok := drawOK_spec hle hb.1
      have hVC : ∀ p ∈ VC, p := fun p hp => hvc p (execOps_vc h p hp)
      obtain ⟨g1, g2, _, _, g5, g6⟩ := head_lex (c := c) (m0 := st.m) (rd := st.rd) hok.apart hle (hd) 0 st.t [] st.vc T New VC (by omega) (Nat.zero_le _) (by simp [cnt]) (by simpa using hh)
      refine ⟨hb.2, ?_⟩
      have hfalse : ∀ j, (Array.replicate ops.size false).getD j false = false := by
        intro j
        rcases Nat.lt_or_ge j ops.size with h' | h'
        · simp [h']
        · simp [h']
      have hlen : ops.toList.length = ops.size := by simp
      refine draw_head hc hadd hok (by simpa using hle) hvc hVC g1 g2 (fun x hx => g5 x (fun j o _ h2 h3 => hx j o h2 h3))
        (fun i o hi ho => by
          obtain ⟨d, k1, k2, ti, k3, k4, k5, k6⟩ := g6 i o (Nat.zero_le _) hi ho
          exact ⟨d, k1, k2, ti, k3, fun j oj dj h1 h2 h3 => k4 j oj dj (Nat.zero_le _) h1 h2 h3, fun x hx => k5 x (fun j oj _ h2 h3 => hx j oj h2 h3), k6⟩)
        h hQ ops.size (List.range (hd)) (Array.replicate ops.size false) a _ st.t (st.m ++ List.replicate (cnt ops.toList (hd)) none) β ?_ (by simp) (fun j hj _ => List.mem_range.2 hj) (fun j _ _ => hfalse j)
        (fun j _ _ _ hl => by rw [hfalse] at hl; cases hl) ?_
      · simp; omega
      · have hm1 : MRel c X W0 β st.m { W with drawn := W.drawn + 1 } := hr.m.keeps (Keeps.drew W)
        have hnone : ∀ k, st.m.length ≤ k → k < st.m.length + cnt ops.toList (hd) → nth (st.m ++ List.replicate (cnt ops.toList (hd)) none) k = some none := by
          intro k h1 h2
          rw [nth_eq, List.getElem?_append_right h1, List.getElem?_replicate, if_pos (by omega)]
        have live : ∀ {k : Nat} {blk : Blk A}, nth (st.m ++ List.replicate (cnt ops.toList (hd)) none) k = some (some blk) → nth st.m k = some (some blk) := by
          intro k blk hk
          have hlt := nth_lt hk
          rcases Nat.lt_or_ge k st.m.length with h' | h'
          · rw [nth_append_lt h'] at hk
            exact hk
          · rw [hnone k h' (by simpa using hlt)] at hk
            cases hk
        refine ⟨hr.t, hr.d, hm1.live (fun k blk hk => live hk), fun k hk => hr.top k (by simp at hk; omega), rfl, fun j _ _ _ _ _ hl => ?_, fun _ _ => rfl, by simp, fun k hk => nth_append_lt hk, fun j _ _ _ _ hl => ?_, fun j o hj ho ha _ => ⟨?_, ?_⟩, Adr.le_refl β, hr.y.kept (Adr.le_refl β) (Keeps.drew W).nc⟩
        · rw [hfalse] at hl; cases hl
        · rw [hfalse] at hl; cases hl
        · exact hnone _ (by omega) (by have := cnt_lt ho ha hj; omega)
        · exact (hr.top _ (by omega)).1
    · cases h
  · cases h

/-! ### Another order of the region's operations -/

theorem wpOpIn_moved {F : Fence} {n : Nat} {P : Program} {Q : Exit → Act → World → Prop} {ops ops' : Array Oper} {i j : Nat} {o : Oper} {p : List Nat} {K K' : Act → World → Prop} {a : Act} {W : World}
    (ho : ops[j]? = some o) (ho' : ops'[i]? = some (moved p o)) (hg : o.guard = none) (hK : ∀ a w, K' a w → K a w) (h : wpOpIn F n P ops' Q i K' a W) : wpOpIn F n P ops Q j K a W := by
  refine wpOpIn_mono (K := K') hK ?_
  unfold wpOpIn at h ⊢
  rw [ho'] at h
  rw [ho]
  have e1 : ∀ y, Region.wanted o y = true := fun y => by simp [Region.wanted, hg]
  have e2 : ∀ y, Region.wanted (moved p o) y = true := fun y => by simp [Region.wanted, moved, hg]
  simp only [e1, e2, if_true] at h ⊢
  exact h

theorem wpAnyIn_perm {F : Fence} {n : Nat} {P : Program} {Q : Exit → Act → World → Prop} {ops ops' : Array Oper} {p : List Nat} (hs : ops'.size = ops.size)
    (h1 : ∀ i, i < ops.size → ∃ j o, j < ops.size ∧ posOf p j = i ∧ ops[j]? = some o ∧ ops'[i]? = some (moved p o) ∧ o.guard = none ∧ ∀ e ∈ o.after, e.on < ops.size)
    (h2 : ∀ j, j < ops.size → posOf p j < ops.size ∧ ∀ k, k < ops.size → posOf p k = posOf p j → k = j) :
    ∀ (fuel : Nat) (listed listed' : Array Bool) (a : Act) (W : World), listed.size = ops.size → listed'.size = ops.size → (∀ j, j < ops.size → listed'.getD (posOf p j) true = listed.getD j true) →
      wpAnyIn F n P .any ops' Q fuel listed' a W → wpAnyIn F n P .any ops Q fuel listed a W := by
  have both : ∀ (l : Array Bool) (j : Nat), j < l.size → l.getD j true = l.getD j false := fun l j h => by simp [h]
  have up : ∀ (listed listed' : Array Bool) j, listed.size = ops.size → listed'.size = ops.size → (∀ j, j < ops.size → listed'.getD (posOf p j) true = listed.getD j true) →
      j ∈ Region.ready .any ops listed → j < ops.size ∧ posOf p j ∈ Region.ready .any ops' listed' ∧ ∃ o, ops[j]? = some o ∧ ops'[posOf p j]? = some (moved p o) ∧ o.guard = none := by
    intro listed listed' j g1 g2 g3 hj
    obtain ⟨hun, o, ho, hall⟩ := mem_ready.1 hj
    have hjs : j < ops.size := (Array.getElem?_eq_some_iff.1 ho).1
    obtain ⟨k, o', hk, hkj, ho1, ho2, hg, hon⟩ := h1 (posOf p j) (h2 j hjs).1
    obtain rfl : k = j := (h2 j hjs).2 k hk hkj
    obtain rfl : o = o' := Option.some.inj (ho.symm.trans ho1)
    refine ⟨hjs, mem_ready.2 ⟨by rw [g3 _ hjs]; exact hun, _, ho2, fun e he hb => ?_⟩, o, ho, ho2, hg⟩
    simp only [moved, List.mem_toArray, List.mem_map] at he
    obtain ⟨e0, he0, rfl⟩ := he
    have he0' : e0 ∈ o.after := by simpa using he0
    have := hall e0 he0' hb
    have hlt := hon e0 he0'
    rw [← both _ _ (by omega)] at this
    rw [← both _ _ (by have := (h2 _ hlt).1; simp only; omega)]
    simp only
    rw [g3 _ hlt]
    exact this
  have down : ∀ (listed listed' : Array Bool) i, listed.size = ops.size → listed'.size = ops.size → (∀ j, j < ops.size → listed'.getD (posOf p j) true = listed.getD j true) →
      i ∈ Region.ready .any ops' listed' → ∃ j, j ∈ Region.ready .any ops listed := by
    intro listed listed' i g1 g2 g3 hi
    obtain ⟨hun, o, ho, hall⟩ := mem_ready.1 hi
    have his : i < ops.size := by have := (Array.getElem?_eq_some_iff.1 ho).1; omega
    obtain ⟨j, o', hj, rfl, ho1, ho2, hg, hon⟩ := h1 i his
    obtain rfl := Option.some.inj (ho.symm.trans ho2)
    refine ⟨j, mem_ready.2 ⟨by rw [← g3 _ hj]; exact hun, _, ho1, fun e he hb => ?_⟩⟩
    have hlt := hon e he
    have := hall { e with on := posOf p e.on } (by
      simp only [moved, List.mem_toArray, List.mem_map]
      exact ⟨e, by simpa using he, rfl⟩) hb
    simp only at this
    rw [← both _ _ (by have := (h2 _ hlt).1; omega), g3 _ hlt, both _ _ (by omega)] at this
    exact this
  have none : ∀ (listed listed' : Array Bool), listed.size = ops.size → listed'.size = ops.size → (∀ j, j < ops.size → listed'.getD (posOf p j) true = listed.getD j true) →
      Region.ready .any ops' listed' = [] → Region.ready .any ops listed = [] := by
    intro listed listed' g1 g2 g3 h
    cases hr : Region.ready .any ops listed with
    | nil => rfl
    | cons j l =>
      obtain ⟨_, h', _⟩ := up listed listed' j g1 g2 g3 (by rw [hr]; simp)
      rw [h] at h'
      cases h'
  have none' : ∀ (listed listed' : Array Bool), listed.size = ops.size → listed'.size = ops.size → (∀ j, j < ops.size → listed'.getD (posOf p j) true = listed.getD j true) →
      Region.ready .any ops listed = [] → Region.ready .any ops' listed' = [] := by
    intro listed listed' g1 g2 g3 h
    cases hr : Region.ready .any ops' listed' with
    | nil => rfl
    | cons j l =>
      obtain ⟨_, h'⟩ := down listed listed' j g1 g2 g3 (by rw [hr]; simp)
      rw [h] at h'
      cases h'
  intro fuel
  induction fuel with
  | zero =>
    intro listed listed' a W g1 g2 g3 h
    exact ⟨none listed listed' g1 g2 g3 h.1, h.2⟩
  | succ fuel ih =>
    intro listed listed' a W g1 g2 g3 h
    refine ⟨fun e => h.1 (none' listed listed' g1 g2 g3 e), fun j hj => ?_⟩
    obtain ⟨hjs, hr, o, ho, ho', hg⟩ := up listed listed' j g1 g2 g3 hj
    refine wpOpIn_moved ho ho' hg (fun a' W' h' => ih _ _ a' W' (by simpa using g1) (by simpa using g2) (fun k hk => ?_) h') (h.2 _ hr)
    by_cases hkj : k = j
    · subst hkj
      have := (h2 _ hk).1
      simp [g1, g2, hk, this]
    · have hne : posOf p k ≠ posOf p j := fun e => hkj ((h2 j hjs).2 k hk e)
      rw [getD_set_ne true (fun e => hne e.symm), getD_set_ne true (fun e => hkj e.symm)]
      exact g3 k hk

theorem execDrawG_vc {ad : Ad} {hl : List Nat × List Nat} {c : Cfg A} {ops : List Oper} {st st' : St A} (h : execDrawG ad hl c ops st = some st') : ∀ p ∈ st.vc, p ∈ st'.vc := by
  unfold execDrawG at h
  simp only at h
  split at h
  · exact execDrawN_vc h
  · cases h

theorem permOK_spec {ops : List Oper} {p : List Nat} (h : permOK ops p = true) : p.length = ops.length ∧
    (∀ i, i < ops.length → ∃ j o, j < ops.length ∧ posOf p j = i ∧ ops[j]? = some o ∧ (permOf ops p)[i]? = some (moved p o) ∧ o.guard = none ∧ ∀ e ∈ o.after, e.on < ops.length) ∧
    (∀ j, j < ops.length → posOf p j < ops.length ∧ ∀ k, k < ops.length → posOf p k = posOf p j → k = j) := by
  unfold permOK at h
  simp only [Bool.and_eq_true] at h
  obtain ⟨⟨h1, h2⟩, h3⟩ := h
  have h1 := Nat.eq_of_beq_eq_true h1
  have key : ∀ j, j < ops.length → posOf p j < ops.length ∧ p[posOf p j]? = some j := by
    intro j hj
    have := List.all_eq_true.1 h2 j (List.mem_range.2 hj)
    simp only [Bool.and_eq_true] at this
    obtain ⟨⟨_, g2⟩, g3⟩ := this
    refine ⟨by simpa [Nat.blt_eq] using g2, ?_⟩
    split at g3
    · rename_i k hk
      rw [nth_eq] at hk
      rw [hk, Nat.eq_of_beq_eq_true g3]
    · cases g3
  refine ⟨h1, fun i hi => ?_, fun j hj => ⟨(key j hj).1, fun k hk e => ?_⟩⟩
  · have := List.all_eq_true.1 h2 i (List.mem_range.2 hi)
    simp only [Bool.and_eq_true] at this
    obtain ⟨⟨g1, _⟩, _⟩ := this
    split at g1
    · rename_i j hj
      rw [nth_eq] at hj
      simp only [Bool.and_eq_true] at g1
      have hjl : j < ops.length := by simpa [Nat.blt_eq] using g1.1
      obtain ⟨o, ho⟩ : ∃ o, ops[j]? = some o := ⟨_, List.getElem?_eq_getElem hjl⟩
      have hop := List.all_eq_true.1 h3 o (List.mem_of_getElem? ho)
      simp only [Bool.and_eq_true] at hop
      refine ⟨j, o, hjl, Nat.eq_of_beq_eq_true g1.2, ho, ?_, by simpa using hop.1, fun e he => ?_⟩
      · unfold permOf
        rw [List.getElem?_map, hj]
        simp only [Option.map_some, nth_eq, ho]
      · have := List.all_eq_true.1 hop.2 e (by simpa using he)
        simpa [Nat.blt_eq] using this
    · cases g1
  · have a1 := (key j hj).2
    have a2 := (key k hk).2
    rw [e, a1] at a2
    exact (Option.some.inj a2).symm

theorem execDrawG_sound {ad : Ad} {hl : List Nat × List Nat} {c : Cfg A} (hc : CfgOK c) (hadd : AddsOK c (Ad.at ad)) {X : Nat → Prop} {W0 W : World} {ops : Array Oper} {id : Nat} {r : Option Nat} {n : Nat} {Q : Exit → Act → World → Prop} {st st' : St A} {β : Adr} {a : Act}
    (h : execDrawG ad hl c ops.toList st = some st') (hvc : ∀ p ∈ st'.vc, p) (hr : Rel c X W0 β st a W) (hQ : ∀ β' a' W', Adr.le β β' → Rel c X W0 β' st' a' W' → Q .normal a' W') :
    (Code.region id ops true).wpIn (Fr r) n c.P Q a W := by
  unfold execDrawG at h
  obtain ⟨hs, ls⟩ := hl
  simp only at h
  split at h
  · rename_i hp
    obtain ⟨g1, g2, g3⟩ := permOK_spec hp
    have hlen : (permOf ops.toList (hs ++ ls)).length = ops.size := by simp [permOf, ← g1]; simpa using g1
    have hN := execDrawN_sound (id := id) (r := r) (n := n) (Q := Q) (ops := (permOf ops.toList (hs ++ ls)).toArray) hc hadd (by
      have h1 : (hs ++ ls).length = ops.size := by simpa using g1
      have h2 : (permOf ops.toList (hs ++ ls)).toArray.toList.length = ops.size := by simpa using hlen
      rw [h2]
      simp at h1
      exact Nat.le_trans (Nat.le_add_right _ _) (Nat.le_of_eq h1)) (by simpa using h) hvc hr hQ
    refine wpIn_region_any hN.1 ?_
    have hsz : (permOf ops.toList (hs ++ ls)).toArray.size = ops.size := by simpa using hlen
    have hfin := hN.2
    rw [hsz] at hfin
    refine wpAnyIn_perm (p := hs ++ ls) hsz (fun i hi => ?_) (fun j hj => ?_) _ _ _ _ _ (by simp) (by simp) (fun j hj => ?_) hfin
    · obtain ⟨j, o, k1, k2, k3, k4, k5, k6⟩ := g2 i (by simpa using hi)
      exact ⟨j, o, by simpa using k1, k2, by simpa using k3, by simpa using k4, k5, fun e he => by simpa using k6 e he⟩
    · obtain ⟨k1, k2⟩ := g3 j (by simpa using hj)
      exact ⟨by simpa using k1, fun k hk e => k2 k (by simpa using hk) e⟩
    · have := (g3 j (by simpa using hj)).1
      have h' : posOf (hs ++ ls) j < ops.size := by simpa using this
      simp [hj, h']
  · cases h

theorem noAdds (c : Cfg A) : AddsOK c (Ad.at none) := by
  intro g args m res m' vc h
  cases h
theorem execDraw_vc {c : Cfg A} {ops : List Oper} {st st' : St A} (h : execDraw c ops st = some st') : ∀ p ∈ st.vc, p ∈ st'.vc := by
  unfold execDraw at h
  split at h
  · rename_i r hr
    obtain rfl := Option.some.inj h
    exact execDrawN_vc hr
  · split at h
    · rename_i r hr
      obtain rfl := Option.some.inj h
      exact execDrawN_vc hr
    · split at h
      · rename_i r hr
        obtain rfl := Option.some.inj h
        exact execDrawG_vc hr
      · split at h
        · rename_i r hr
          obtain rfl := Option.some.inj h
          exact execDrawG_vc hr
        · exact execDrawN_vc h
theorem execDraw_sound {c : Cfg A} (hc : CfgOK c) {X : Nat → Prop} {W0 W : World} {ops : Array Oper} {id : Nat} {r : Option Nat} {n : Nat} {Q : Exit → Act → World → Prop} {st st' : St A} {β : Adr} {a : Act}
    (h : execDraw c ops.toList st = some st') (hvc : ∀ p ∈ st'.vc, p) (hr : Rel c X W0 β st a W) (hQ : ∀ β' a' W', Adr.le β β' → Rel c X W0 β' st' a' W' → Q .normal a' W') :
    (Code.region id ops true).wpIn (Fr r) n c.P Q a W := by
  unfold execDraw at h
  split at h
  · rename_i z hz
    obtain rfl := Option.some.inj h
    have := execDrawN_sound (id := id) (r := r) (n := n) (Q := Q) hc (noAdds c) (headLen_le _) hz hvc hr hQ
    exact wpIn_region_any this.1 this.2
  · split at h
    · rename_i z hz
      obtain rfl := Option.some.inj h
      have := execDrawN_sound (id := id) (r := r) (n := n) (Q := Q) hc (noAdds c) (Nat.le_trans (Nat.sub_le _ _) (headLen_le _)) hz hvc hr hQ
      exact wpIn_region_any this.1 this.2
    · split at h
      · rename_i z hz
        obtain rfl := Option.some.inj h
        exact execDrawG_sound hc (noAdds c) hz hvc hr hQ
      · split at h
        · rename_i z hz
          obtain rfl := Option.some.inj h
          exact execDrawG_sound (ad := some c.adds) hc hc.adds hz hvc hr hQ
        · have := execDrawN_sound (id := id) (r := r) (n := n) (Q := Q) (ad := some c.adds) hc hc.adds (headLen_le _) h hvc hr hQ
          exact wpIn_region_any this.1 this.2

end
end Go.Sh

/- Code on shadows: the runner of a function's body, and what a run says of a call. -/
namespace Go.Sh
open Go.RowKit

theorem stepR_scope {P : Program} {b : Frame} {a : Act} {k : List Item} {cs : List Frame} {w : World} {c : Code} :
    step P (lone (b.atR a (.code (.scope c) :: k)) cs w) = .next (lone (b.atR a (.code c :: .inScope c :: k)) cs w) :=
  step_lone_go (by simp [stepG, stepG.exec, Frame.atR])

theorem stepR_inScope {P : Program} {b : Frame} {a : Act} {k : List Item} {cs : List Frame} {w : World} {c : Code} :
    step P (lone (b.atR a (.inScope c :: k)) cs w) = .next (lone (b.atR a k) cs w) :=
  step_lone_go (by simp [stepG, stepG.exec, Frame.atR])

/-- A scope through which the run goes without a jump. -/
theorem wpIn_scope {F : Fence} {n : Nat} {P : Program} {c : Code} {Q : Exit → Act → World → Prop} {a : Act} {w : World} (h : c.wpIn F n P (Exit.noGoto Q) a w) : (Code.scope c).wpIn F n P Q a w := by
  intro b k cs hro hb hr
  have h0 : (lone (b.atR a (.code (.scope c) :: k)) cs w).fenced P F := fenced_calm hb hr rfl
  obtain ⟨e, a₁, w₁, hq, harr⟩ := h b (.inScope c :: k) cs hro hb hr
  cases e with
  | normal => exact ⟨.normal, a₁, w₁, hq, .head h0 stepR_scope (StepsIn.trans harr (.one (fenced_calm hb hr rfl) stepR_inScope))⟩
  | exit id =>
    have hx : exitTo id (.inScope c :: k) = exitTo id k := by simp [exitTo]
    exact ⟨.exit id, a₁, w₁, hq, fun k' hk => .head h0 stepR_scope (harr.1 k' (by rw [hx]; exact hk)),
      fun hr' hk => let ⟨k₁, h1, h2⟩ := harr.2 hr' (by rw [hx]; exact hk); ⟨k₁, h1, .head h0 stepR_scope h2⟩⟩
  | goto l => exact hq.elim
  | ret => exact ⟨_, a₁, w₁, hq, .of_steps (.one h0 stepR_scope) harr⟩
  | panic ch => exact ⟨_, a₁, w₁, hq, .of_steps (.one h0 stepR_scope) harr⟩
  | outgrown => exact ⟨_, a₁, w₁, hq, .of_steps (.one h0 stepR_scope) harr⟩

section
variable {A : Type} [Atom A]

/-- A loop, round by round. -/
def rounds (f : St A → Option (Ex × St A)) : Nat → St A → Option (Ex × St A)
  | 0, _ => none
  | k + 1, st =>
    match f { st with rd := st.rd + 1 } with
    | some (.normal, st') => rounds f k st'
    | r => r

/-- The number of a piece of code's first region. -/
def firstRegion : Code → Option Nat
  | .region id _ _ => some id
  | .seq x y => match firstRegion x with | some i => some i | none => firstRegion y
  | .cond _ x y => match firstRegion x with | some i => some i | none => firstRegion y
  | .block _ x => firstRegion x
  | .loop x => firstRegion x
  | .scope x => firstRegion x
  | .rangeFunc _ _ x y => match firstRegion x with | some i => some i | none => firstRegion y
  | _ => none

/-- The loops in a piece of code. -/
def loopsOf : Code → List Code
  | .seq x y => loopsOf x ++ loopsOf y
  | .cond _ x y => loopsOf x ++ loopsOf y
  | .block _ x => loopsOf x
  | .scope x => loopsOf x
  | .loop x => .loop x :: loopsOf x
  | .rangeFunc g ps x y => .rangeFunc g ps x y :: (loopsOf x ++ loopsOf y)
  | _ => []

/-- A cell, as one of the kind of another one. -/
def soft : SV A → SV A → SV A
  | .n _ _, .v (.int k z) => .n k z
  | .n _ _, .a x => (match Atom.int x with | some (k, z) => .n k z | none => .a x)
  | .b _, .v (.bool b) => .b b
  | .a _, s => (match atomOf s with | some x => .a x | none => s)
  | .kn .., .gr f _ _ n sz => .kn f 0 n sz
  | .kn _ _ _ sz, .v (.slice none 0 0) => .kn (fun _ => Atom.dummy) 0 0 sz
  | _, s => s

def softZ : List (SV A) → List (SV A) → List (SV A)
  | p :: ps, s :: l => soft p s :: softZ ps l
  | _, l => l

def softR (x : A) (l : List (SV A)) : List (SV A) :=
  match rowA (flat l) with
  | some r => (match Atom.like x r with | some b => [.a b] | none => [.a r])
  | none => l

/-- Cells, as those of another aggregate. -/
def softL (p l : List (SV A)) : List (SV A) :=
  match p, l with
  | [.a x], [s] => (match s with | .a y => (match Atom.wide y || Nat.beq (Atom.size y) 1 with | true => [s] | false => (match Atom.like x y with | some b => [.a b] | none => [s])) | s => [soft (.a x) s])
  | [.a x], l => softR x l
  | p, l => softZ p l

/-- What p forgets is forgotten; the rest is as p's kind has it. -/
def maskT : List (TV A) → List (TV A) → List (TV A)
  | .any :: p, _ :: t => .any :: maskT p t
  | .val _ q :: p, .val g l :: t => .val g (softL q l) :: maskT p t
  | _ :: p, x :: t => x :: maskT p t
  | [], t => t
  | _ :: _, [] => []

/-- The same of a block's cells. -/
def softB (p : List (SV A)) : List (SV A) → List (SV A)
  | .mk v n :: l => (match p with | .mk _ _ :: p => .mk v n :: softL p l | _ => .mk v n :: l)
  | l => softL p l

def maskM : Mem A → Mem A → Mem A
  | none :: p, _ :: m => none :: maskM p m
  | some q :: p, some b :: m => some ⟨softB q.cells b.cells, b.ty, b.ro⟩ :: maskM p m
  | some _ :: p, none :: m => none :: maskM p m
  | _, _ => []

/-- A loop that is told. -/
def told (c : Cfg A) (id : Option Nat) (st : St A) : Option (Ex × St A) :=
  match id with
  | some i =>
    match c.lp i with
    | some (pre, e, post) => some (e, ⟨post.t, post.m, st.rd, ((maskT pre.t st.t, maskM pre.m st.m, st.m.length, st.pd) = (pre.t, pre.m, pre.m.length, pre.pd)) :: st.vc, post.pd⟩)
    | none => none
  | none => none

def bindPs : List Tmp → List (TV A) → List (TV A) → List (TV A)
  | p :: ps, x :: xs, t => bindPs ps xs (setN t p x)
  | _, _, t => t

/-- One round of a loop over a function: the jump by which it leaves the loop, if it does. -/
def roundF (fa fb : St A → Option (Ex × St A)) (s : Ys A) (args : List (TV A)) (rd : Nat) (m : Mem A) (pd : Pds) : Option (Option Ex × Mem A × Pds × List Prop) :=
  if args.length = s.ps.length then
    match fa ⟨bindPs s.ps args s.t, m, rd, [], pd⟩ with
    | some (.normal, s1) =>
      match fb s1 with
      | some (.normal, s2) => some (none, s2.m, s2.pd, s2.vc)
      | some (e, s2) => some (some e, s2.m, s2.pd, s2.vc)
      | none => none
    | _ => none
  else none

/-- Calls of yield, with one loop more. -/
def pushY (fa fb : St A → Option (Ex × St A)) (s : Ys A) (yf : YF A) : YF A := fun i args rd m pd =>
  match pd with
  | [] => none
  | e :: rest =>
    if Nat.beq i s.ix then
      match e with
      | none =>
        match roundF fa fb s args rd m rest with
        | some (e', m', rest', vc) => some (e'.isNone, m', e' :: rest', vc)
        | none => none
      | some _ => none
    else
      match yf i args rd m rest with
      | some (b, m', rest', vc) => some (b, m', e :: rest', vc)
      | none => none

/-- A loop over a function, run where it stands. -/
def rangeX (c : Cfg A) (gf : FuncId) (cap : List (Nat × Nat)) (s : Ys A) (fa fb : St A → Option (Ex × St A)) (st : St A) : Option (Ex × St A) :=
  match c.it gf (s :: c.ys) (pushY fa fb s c.yf) (.val false [.y s.ix] :: capsTV cap) st.rd (st.m ++ [none]) (none :: st.pd) with
  | some (m', e :: pd', vc) => some ((match e with | none => .normal | some e => e), { st with m := m', pd := pd', vc := vc ++ st.vc })
  | _ => none

def exec (c : Cfg A) (fuel : Nat) : Code → St A → Option (Ex × St A)
  | .skip, st => some (.normal, st)
  | .label _, st => some (.normal, st)
  | .region _ ops draw, st =>
    match (if draw then execDraw c ops.toList st else execOps c ops.toList ops.toList st) with
    | some st' => some (.normal, st')
    | none => none
  | .seq x y, st =>
    match exec c fuel x st with
    | some (.normal, st') => exec c fuel y st'
    | r => r
  | .cond q x y, st =>
    match evO c st q with
    | some tv =>
      match boolOf tv with
      | some true => exec c fuel x st
      | some false => exec c fuel y st
      | none => none
    | none => none
  | .block id x, st =>
    match exec c fuel x st with
    | some (.exit id', st') => if id' = id then some (.normal, st') else some (.exit id', st')
    | r => r
  | .loop x, st =>
    match told c (firstRegion x) st with
    | some r => some r
    | none => rounds (exec c fuel x) fuel st
  | .rangeFunc g ps x y, st =>
    match told c (match firstRegion x with | some i => some i | none => firstRegion y) st with
    | some r => some r
    | none =>
      match evO c st g with
      | some (.val false [.f gf cap]) => rangeX c gf cap ⟨st.m.length, ps.toList, x, y, st.t⟩ (exec c fuel x) (exec c fuel y) st
      | _ => none
  | .scope x, st => exec c fuel x st
  | .exit id, st => some (.exit id, st)
  | .ret, st => some (.ret, st)
  | _, _ => none

omit [Atom A] in
theorem rounds_vc {f : St A → Option (Ex × St A)} (hf : ∀ st e st', f st = some (e, st') → ∀ p ∈ st.vc, p ∈ st'.vc) : ∀ {k : Nat} {st : St A} {e : Ex} {st' : St A}, rounds f k st = some (e, st') → ∀ p ∈ st.vc, p ∈ st'.vc
  | 0, _, _, _, h => by simp [rounds] at h
  | k + 1, st, e, st', h => by
    simp only [rounds] at h
    split at h
    · rename_i st1 h1
      intro p hp
      exact rounds_vc hf h p (hf _ _ _ h1 p hp)
    · exact hf { st with rd := st.rd + 1 } e st' h

theorem told_vc {c : Cfg A} {id : Option Nat} {st : St A} {e : Ex} {st' : St A} (h : told c id st = some (e, st')) : ∀ p ∈ st.vc, p ∈ st'.vc := by
  unfold told at h
  split at h
  · split at h
    · simp at h; obtain ⟨_, rfl⟩ := h; exact fun p hp => List.mem_cons_of_mem _ hp
    · cases h
  · cases h

omit [Atom A] in
theorem rangeX_vc {c : Cfg A} {gf : FuncId} {cap : List (Nat × Nat)} {s : Ys A} {fa fb : St A → Option (Ex × St A)} {st : St A} {e : Ex} {st' : St A} (h : rangeX c gf cap s fa fb st = some (e, st')) : ∀ p ∈ st.vc, p ∈ st'.vc := by
  unfold rangeX at h
  split at h
  · cases h; exact fun p hp => List.mem_append_right _ hp
  · cases h

theorem exec_vc {c : Cfg A} {fuel : Nat} : ∀ (x : Code) (st : St A) (e : Ex) (st' : St A), exec c fuel x st = some (e, st') → ∀ p ∈ st.vc, p ∈ st'.vc := by
  intro x
  induction x with
  | skip => intro st e st' h; simp [exec] at h; obtain ⟨_, rfl⟩ := h; exact fun _ h => h
  | label l => intro st e st' h; simp [exec] at h; obtain ⟨_, rfl⟩ := h; exact fun _ h => h
  | region id ops draw =>
    intro st e st' h
    simp only [exec] at h
    split at h
    · rename_i st1 h1
      simp at h
      obtain ⟨_, rfl⟩ := h
      cases draw
      · simp only [Bool.false_eq_true, if_false] at h1; exact execOps_vc h1
      · simp only [if_true] at h1; exact execDraw_vc h1
    · cases h
  | seq x y ihx ihy =>
    intro st e st' h
    simp only [exec] at h
    split at h
    · rename_i st1 h1
      intro p hp
      exact ihy _ _ _ h p (ihx _ _ _ h1 p hp)
    · exact ihx _ _ _ h
  | cond q x y ihx ihy =>
    intro st e st' h
    simp only [exec] at h
    split at h
    · split at h
      · exact ihx _ _ _ h
      · exact ihy _ _ _ h
      · cases h
    · cases h
  | block id x ih =>
    intro st e st' h
    simp only [exec] at h
    split at h
    · rename_i id' st1 h1
      split at h <;> (simp at h; obtain ⟨_, rfl⟩ := h; exact ih _ _ _ h1)
    · exact ih _ _ _ h
  | loop x ih =>
    intro st e st' h
    simp only [exec] at h
    split at h
    · rename_i r hr
      obtain rfl := Option.some.inj h
      exact told_vc hr
    · exact rounds_vc ih h
  | rangeFunc g ps x y _ _ =>
    intro st e st' h
    simp only [exec] at h
    split at h
    · rename_i r hr
      obtain rfl := Option.some.inj h
      exact told_vc hr
    · split at h
      · exact rangeX_vc h
      · cases h
  | scope x ih =>
    intro st e st' h
    simp only [exec] at h
    exact ih _ _ _ h
  | exit id => intro st e st' h; simp [exec] at h; obtain ⟨_, rfl⟩ := h; exact fun _ h => h
  | ret => intro st e st' h; simp [exec] at h; obtain ⟨_, rfl⟩ := h; exact fun _ h => h
  | _ => intro st e st' h; simp [exec] at h

/-- In a round of loop r: its record lies in memory that is not ours. -/
def RndOK (r : Option Nat) (X : Nat → Prop) (W0 : World) : Prop := ∀ l, r = some l → l < W0.heap.size ∧ ¬ X l ∧ ∃ rec : Loop, W0.heap[l]? = some (.loop rec)

theorem RndOK.none (X : Nat → Prop) (W0 : World) : RndOK none X W0 := fun _ h => by cases h

/-- A piece of code, run on shadows, says what it does. -/
def Sound (c : Cfg A) (x : Code) (f : St A → Option (Ex × St A)) : Prop :=
  ∀ (r : Option Nat) (n : Nat) (X : Nat → Prop) (W0 : World) (Q : Exit → Act → World → Prop) (st : St A) (e : Ex) (st' : St A) (β : Adr) (a : Act) (W : World), RndOK r X W0 → f st = some (e, st') → (∀ p ∈ st'.vc, p) → Rel c X W0 β st a W →
    (∀ β' a' W', Adr.le β β' → Rel c X W0 β' st' a' W' → Q e.toExit a' W') → x.wpIn (Fr r) n c.P Q a W

theorem rounds_sound {c : Cfg A} {r : Option Nat} {n : Nat} {x : Code} {f : St A → Option (Ex × St A)} (hf : Sound c x f) (hv : ∀ st e st', f st = some (e, st') → ∀ p ∈ st.vc, p ∈ st'.vc)
    {X : Nat → Prop} {W0 : World} {Q : Exit → Act → World → Prop} (hrnd : RndOK r X W0) : ∀ (k : Nat) (st : St A) (e : Ex) (st' : St A) (β : Adr) (a : Act) (W : World), rounds f k st = some (e, st') → (∀ p ∈ st'.vc, p) → Rel c X W0 β st a W →
      (∀ β' a' W', Adr.le β β' → Rel c X W0 β' st' a' W' → Q e.toExit a' W') → Code.roundsIn (Fr r) n c.P x Q k a W
  | 0, _, _, _, _, _, _, h, _, _, _ => by simp [rounds] at h
  | k + 1, st, e, st', β, a, W, h, hvc, hr, hQ => by
    simp only [rounds] at h
    rw [roundsIn_succ]
    split at h
    · rename_i st1 h1
      have hv1 : ∀ p ∈ st1.vc, p := fun p hp => hvc p (rounds_vc hv h p hp)
      refine hf r n X W0 _ _ .normal st1 β a W hrnd h1 hv1 ⟨hr.t, hr.m, hr.top, hr.d, hr.y⟩ (fun β' a' W' hle hr' => ?_)
      exact rounds_sound hf hv hrnd k st1 e st' β' a' W' h hvc hr' (fun β'' a'' W'' hle' hr'' => hQ β'' a'' W'' (Adr.le_trans hle hle') hr'')
    · rename_i hne
      refine hf r n X W0 _ _ e st' β a W hrnd h hvc ⟨hr.t, hr.m, hr.top, hr.d, hr.y⟩ (fun β' a' W' hle hr' => ?_)
      have := hQ β' a' W' hle hr'
      cases e with
      | normal => exact absurd h (hne st')
      | ret => exact this
      | exit id => exact this

/-- What a told loop does. -/
def SoundAt (c : Cfg A) (y : Code) (pre : St A) (e : Ex) (post : St A) : Prop :=
  ∀ (r : Option Nat) (n : Nat) (X : Nat → Prop) (W0 : World) (Q : Exit → Act → World → Prop) (β : Adr) (a : Act) (W : World), RndOK r X W0 → Rel c X W0 β pre a W →
    (∀ β' a' W', Adr.le β β' → Rel c X W0 β' post a' W' → Q e.toExit a' W') → y.wpIn (Fr r) n c.P Q a W

def LoopsOK (c : Cfg A) (x : Code) : Prop :=
  ∀ y ∈ loopsOf x, ∀ i pre e post, firstRegion y = some i → c.lp i = some (pre, e, post) → SoundAt c y pre e post

theorem known_of_grows {β : Adr} {f : Nat → A} {i v n sz : Nat} {vs : List Value} (h : (SV.gr f i v n sz : SV A).Is β vs) : (SV.kn f 0 n sz : SV A).Is β vs := growsIs.known h

theorem nil_known {β : Adr} {sz : Nat} {vs : List Value} (h : (SV.v (.slice none 0 0) : SV A).Is β vs) : (SV.kn (fun _ => Atom.dummy) 0 0 sz : SV A).Is β vs := by
  obtain ⟨rfl, _⟩ := h
  exact .inl ⟨rfl, rfl⟩

theorem soft_is {β : Adr} {p s : SV A} {vs : List Value} (h : s.Is β vs) : (soft p s).Is β vs := by
  unfold soft
  split
  · obtain ⟨rfl, _⟩ := h; exact rfl
  · split
    · rename_i k z hz
      have h1 : vs = _ := h
      rw [Atom.int_ok hz] at h1
      exact h1
    · exact h
  · obtain ⟨rfl, _⟩ := h; exact rfl
  · split
    · rename_i x hx
      exact atomOf_is h hx
    · exact h
  · exact known_of_grows h
  · exact nil_known h
  · exact h

theorem softZ_is {β : Adr} : ∀ {p l : List (SV A)} {vs : List Value}, LIs β l vs → LIs β (softZ p l) vs
  | [], l, vs, h => h
  | q :: p, [], vs, h => h
  | q :: p, s :: l, vs, ⟨x, y, h1, h2, e⟩ => ⟨x, y, soft_is h1, softZ_is h2, e⟩

theorem softR_is {β : Adr} {x : A} {l : List (SV A)} {vs : List Value} (h : LIs β l vs) : LIs β (softR x l) vs := by
  unfold softR
  split
  · rename_i r hr
    have h1 := rowA_is (flat_is h) hr
    split
    · rename_i b hb
      exact LIs.atom (by rw [Atom.like_ok hb]; exact h1)
    · exact LIs.atom h1
  · exact h

theorem softL_is {β : Adr} {p l : List (SV A)} {vs : List Value} (h : LIs β l vs) : LIs β (softL p l) vs := by
  unfold softL
  split
  · split
    · rename_i y
      split
      · exact h
      · split
        · rename_i b hb
          obtain ⟨u, w, h1, h2, e⟩ := h
          obtain rfl : w = [] := h2
          have h3 : u = Atom.cells y := h1
          exact LIs.atom (by rw [Atom.like_ok hb, e, h3, List.append_nil])
        · exact h
    · obtain ⟨u, w, h1, h2, e⟩ := h
      exact ⟨u, w, soft_is h1, h2, e⟩
  · exact softR_is h
  · exact softZ_is h

theorem maskT_is {β : Adr} : ∀ {p t : List (TV A)} {vs : List Value}, TsIs β t vs → TsIs β (maskT p t) vs
  | [], t, vs, h => by cases t <;> exact h
  | q :: _, [], _, h => by cases q <;> exact h
  | q :: p, x :: t, vs, ⟨v, r, h1, h2, e⟩ => by
    have ih := maskT_is (p := p) h2
    cases q with
    | any => exact ⟨v, r, trivial, ih, e⟩
    | val g q =>
      cases x with
      | val g' l =>
        refine ⟨v, r, ?_, ih, e⟩
        have h1' : VIs β g' l v := h1
        cases g' with
        | true => obtain ⟨us, k1, k2⟩ := h1'; exact ⟨us, softL_is k1, k2⟩
        | false => exact softL_is h1'
      | _ => exact ⟨v, r, h1, ih, e⟩
    | _ => cases x <;> exact ⟨v, r, h1, ih, e⟩

/-- The blocks of m' are those of m, in other words. -/
def MSub (m' m : Mem A) : Prop :=
  ∀ {i : Nat} {b' : Blk A}, nth m' i = some (some b') → ∃ b, nth m i = some (some b) ∧ b'.ty = b.ty ∧ b'.ro = b.ro ∧ (∀ (β : Adr) (vs : List Value), LIs β b.cells vs → LIs β b'.cells vs) ∧
    (∀ v n l', b'.vec = some (v, n, l') → ∃ l, b.vec = some (v, n, l) ∧ ∀ (β : Adr) (vs : List Value), LIs β l vs → LIs β l' vs) ∧ (b'.vec = none → b.vec = none)

theorem softB_is {β : Adr} {p l : List (SV A)} {vs : List Value} (h : LIs β l vs) : LIs β (softB p l) vs := by
  unfold softB
  split
  · obtain ⟨_, _, h1, _⟩ := h
    exact h1.elim
  · exact softL_is h

theorem soft_k {p s : SV A} {v n : Nat} (h : soft p s = .mk v n) : s = .mk v n := by
  unfold soft at h
  split at h
  · cases h
  · split at h <;> cases h
  · cases h
  · split at h
    · cases h
    · exact h
  · cases h
  · cases h
  · exact h

theorem softL_k {p l l' : List (SV A)} {v n : Nat} (h : softL p l = .mk v n :: l') : ∃ l0, l = .mk v n :: l0 := by
  have zz : ∀ {p l : List (SV A)}, softZ p l = .mk v n :: l' → ∃ l0, l = .mk v n :: l0 := by
    intro p l h
    cases p with
    | nil => exact ⟨l', h⟩
    | cons q p =>
      cases l with
      | nil => cases h
      | cons s l =>
        simp only [softZ, List.cons.injEq] at h
        exact ⟨l, by rw [soft_k h.1]⟩
  unfold softL at h
  split at h
  · split at h
    · split at h
      · cases h
      · split at h <;> cases h
    · simp only [List.cons.injEq] at h
      exact ⟨_, by rw [soft_k h.1]⟩
  · unfold softR at h
    split at h
    · split at h <;> cases h
    · exact ⟨_, h⟩
  · exact zz h

theorem softB_vec {q b : Blk A} : (∀ v n l', (⟨softB q.cells b.cells, b.ty, b.ro⟩ : Blk A).vec = some (v, n, l') → ∃ l, b.vec = some (v, n, l) ∧ ∀ (β : Adr) (vs : List Value), LIs β l vs → LIs β l' vs) ∧
    ((⟨softB q.cells b.cells, b.ty, b.ro⟩ : Blk A).vec = none → b.vec = none) := by
  obtain ⟨bc, ty, ro⟩ := b
  refine ⟨fun v n l' h => ?_, fun h => ?_⟩
  · unfold Blk.vec at h
    split at h
    · rename_i v0 n0 l0 heq
      simp only [Option.some.injEq, Prod.mk.injEq] at h
      obtain ⟨rfl, rfl, rfl⟩ := h
      change softB q.cells bc = _ at heq
      unfold softB at heq
      split at heq
      · rename_i v1 n1 l1
        split at heq
        · simp only [List.cons.injEq, SV.mk.injEq] at heq
          obtain ⟨⟨rfl, rfl⟩, rfl⟩ := heq
          exact ⟨l1, rfl, fun β vs h => softL_is h⟩
        · simp only [List.cons.injEq, SV.mk.injEq] at heq
          obtain ⟨⟨rfl, rfl⟩, rfl⟩ := heq
          exact ⟨l1, rfl, fun β vs h => h⟩
      · rename_i hne
        obtain ⟨l1, rfl⟩ := softL_k heq
        exact absurd rfl (hne _ _ _)
    · cases h
  · unfold Blk.vec at h ⊢
    split
    · rename_i v1 n1 l1 heq
      change bc = _ at heq
      subst heq
      exfalso
      simp only [softB] at h
      split at h
      · cases h
      · rename_i hne
        split at hne
        · exact hne _ _ _ rfl
        · exact hne _ _ _ rfl
    · rfl

theorem maskM_sub : ∀ {p m : Mem A}, MSub (maskM p m) m
  | none :: p, x :: m, 0, b, h => by simp [maskM, nth] at h
  | none :: p, x :: m, i + 1, b, h => by simp only [maskM, nth] at h ⊢; exact maskM_sub h
  | some q :: p, some x :: m, 0, b, h => by
    simp only [maskM, nth, Option.some.injEq] at h ⊢
    subst h
    exact ⟨x, rfl, rfl, rfl, fun β vs h => softB_is h, softB_vec.1, softB_vec.2⟩
  | some _ :: p, none :: m, 0, b, h => by simp [maskM, nth] at h
  | some _ :: p, some x :: m, i + 1, b, h => by simp only [maskM, nth] at h ⊢; exact maskM_sub h
  | some _ :: p, none :: m, i + 1, b, h => by simp only [maskM, nth] at h ⊢; exact maskM_sub h
  | [], m, i, b, h => by cases m <;> simp [maskM, nth] at h
  | q :: p, [], i, b, h => by cases q <;> simp [maskM, nth] at h

theorem MRel.sub {c : Cfg A} {X : Nat → Prop} {W0 W : World} {β : Adr} {m m' : Mem A} (h : MRel c X W0 β m W) (hs : MSub m' m) : MRel c X W0 β m' W := by
  have vin : ∀ {i b}, vecIn β m' i b → vecIn β m i b := by
    rintro i b ⟨blk, v, n, l, cap, g1, g2, g3⟩
    obtain ⟨b0, k1, k2, k3, k4, k5, k6⟩ := hs g1
    obtain ⟨l0, k7, _⟩ := k5 _ _ _ g2
    exact ⟨b0, v, n, l0, cap, k1, k7, g3⟩
  have win : ∀ {i} {a : Addr}, wra β m' i a → wra β m i a := by
    rintro i a (⟨blk, w1, w2, w3, w4⟩ | ⟨blk, v, n, l, cap, w1, w2, w3⟩)
    · obtain ⟨b0, k1, k2, k3, k4, k5, k6⟩ := hs w1
      exact .inl ⟨b0, k1, k6 w2, by rw [← k3]; exact w3, w4⟩
    · obtain ⟨b0, k1, k2, k3, k4, k5, k6⟩ := hs w1
      obtain ⟨l0, k7, _⟩ := k5 _ _ _ w2
      exact .inr ⟨b0, v, n, l0, cap, k1, k7, w3⟩
  refine ⟨fun i b' hi hnv => ?_, fun i j bi bj b li lj hi hj => ?_, h.dom, h.ext, h.glob, h.old, h.nc, fun a v hk => ⟨(h.kn a v hk).1, (h.kn a v hk).2.1, fun i hw => (h.kn a v hk).2.2 i (win hw)⟩, fun i b' v n l' hi hv => ?_,
    fun i b hv j => ⟨fun blk hj => ?_, fun hv' => (h.sep i b (vin hv) j).2 (vin hv')⟩⟩
  rotate_left 2
  · obtain ⟨b, k1, k2, k3, k4, k5, k6⟩ := hs hi
    obtain ⟨l, k7, k8⟩ := k5 _ _ _ hv
    have g := h.vec i b v n l k1 k7
    refine ⟨g.free, g.last, ?_, g.nil⟩
    rw [k2]
    exact g.lies
  · obtain ⟨b0, k1, _⟩ := hs hj
    exact (h.sep i b (vin hv) j).1 b0 k1
  · obtain ⟨b, k1, k2, k3, k4, k5, k6⟩ := hs hi
    obtain ⟨a, vs, fz, h1, h2, h3, h4⟩ := h.mem i b k1 (k6 hnv)
    exact ⟨a, vs, fz, h1, k4 β vs h2, by rw [k2]; exact h3, by rw [k3]; exact h4⟩
  · obtain ⟨_, k1, _⟩ := hs li
    obtain ⟨_, k2, _⟩ := hs lj
    exact h.inj i j _ _ b k1 k2 hi hj

theorem Rel.mask {c : Cfg A} {X : Nat → Prop} {W0 W : World} {β : Adr} {st pre : St A} {a : Act} (h : Rel c X W0 β st a W) (e : (maskT pre.t st.t, maskM pre.m st.m, st.m.length, st.pd) = (pre.t, pre.m, pre.m.length, pre.pd)) : Rel c X W0 β pre a W := by
  simp only [Prod.mk.injEq] at e
  obtain ⟨e1, e2, e3, e4⟩ := e
  refine ⟨⟨?_⟩, ?_, ?_, h.d, by rw [← e4]; exact h.y⟩
  · rw [← e1]; exact maskT_is h.t.tmps
  · refine h.m.sub ?_
    rw [← e2]
    exact maskM_sub
  · intro i hi
    exact h.top i (by omega)

theorem told_sound {c : Cfg A} {y : Code} {id : Option Nat} (hid : firstRegion y = id) (hl : ∀ i pre e post, firstRegion y = some i → c.lp i = some (pre, e, post) → SoundAt c y pre e post) : Sound c y (told c id) := by
  intro r n X W0 Q st e st' β a W hrnd h hvc hr hQ
  unfold told at h
  split at h
  · rename_i i
    split at h
    · rename_i pre e' post hlp
      obtain ⟨rfl, rfl⟩ := Prod.mk.inj (Option.some.inj h)
      have hpre : Rel c X W0 β pre a W := hr.mask (hvc _ List.mem_cons_self)
      refine hl i pre e' post hid hlp r n X W0 Q β a W hrnd hpre (fun β' a' W' hle hr' => hQ β' a' W' hle ⟨hr'.t, hr'.m, hr'.top, hr'.d, hr'.y⟩)
    · cases h
  · cases h

/-! ### A loop over a function -/

/-- What is ours: our blocks, the records of the loops whose yield is at hand, the put-off calls. -/
def own (c : Cfg A) (β : Adr) (m : Mem A) (b : Nat) : Prop :=
  (∃ i, wrt β m i b) ∨ (∃ s ∈ c.ys, β s.ix = some b) ∨ β.kp b ∨ ∃ a v, β.kn a v ∧ a.block = b

theorem own_ours {c : Cfg A} {X : Nat → Prop} {W0 W : World} {β : Adr} {m : Mem A} {pd : Pds} (hm : MRel c X W0 β m W) (hy : YAll X W0 β c.ys pd W) {b : Nat} (h : own c β m b) : W0.heap.size ≤ b ∨ X b := by
  rcases h with ⟨i, h1⟩ | ⟨s, h1, h2⟩ | h | ⟨a, v, h, rfl⟩
  · obtain ⟨_, _, _, g4⟩ := h1.block hm
    exact g4
  · obtain ⟨e, l, rec, k1, _, k3, _⟩ := hy.has s h1
    have : l = b := Option.some.inj (k1.symm.trans h2)
    subst this
    exact k3
  · exact (hm.nc b h).2
  · exact (hm.kn a v h).2.1

/-- An object that holds no cells, no record at hand, no put-off call, is not ours. -/
theorem own_not {c : Cfg A} {X : Nat → Prop} {W0 W : World} {β : Adr} {m : Mem A} (hm : MRel c X W0 β m W) {k : Nat} {o : Obj} (ho : W.heap[k]? = some o) (hc : o.isCells = false) (hs : ∀ s ∈ c.ys, β s.ix ≠ some k) (h : own c β m k) : β.kp k := by
  rcases h with ⟨i, h1⟩ | ⟨s, h1, h2⟩ | h | ⟨a, v, h, rfl⟩
  · obtain ⟨cs, t, g3, _⟩ := h1.block hm
    rw [g3] at ho
    cases ho
    cases hc
  · exact absurd h2 (hs s h1)
  · exact h
  · obtain ⟨cs, t, fz, g3⟩ := cell?_heap (hm.kn a v h).1
    rw [g3] at ho
    cases ho
    cases hc

theorem YAll.base {X X' : Nat → Prop} {W0 W0' : World} {β : Adr} {W : World} : ∀ {ss : List (Ys A)} {es : Pds}, YAll X W0 β ss es W → (∀ s ∈ ss, ∀ l, β s.ix = some l → W0'.heap.size ≤ l ∨ X' l) → YAll X' W0' β ss es W
  | [], [], _, _ => trivial
  | s :: ss, e :: es, ⟨⟨l, rec, h1, h2, _, h4⟩, k2, k3⟩, hn => ⟨⟨l, rec, h1, h2, hn s (by simp) l h1, h4⟩, k2, YAll.base k3 (fun s' hs' => hn s' (by simp [hs']))⟩
  | [], _ :: _, h, _ => h.elim
  | _ :: _, [], h, _ => h.elim

theorem Defs.base {ok ok' : Nat → Prop} {β : Adr} : ∀ {ds : List Deferred}, Defs ok β ds → (∀ D, β.kp D → ok D → ok' D) → Defs ok' β ds
  | [], _, _ => trivial
  | _ :: _, ⟨⟨D, h1, h2, h3, h4⟩, h5⟩, h => ⟨⟨D, h1, h2, h D h2 h3, h4⟩, Defs.base h5 h⟩

/-- As a run of its own: its start is W; what it may write is ours. -/
theorem Rel.rebase {c : Cfg A} {X : Nat → Prop} {W0 W : World} {β : Adr} {st : St A} {a : Act} (h : Rel c X W0 β st a W) : Rel c (own c β st.m) W β st a W := by
  refine ⟨h.t, ?_, h.top, h.d.base (fun D hD _ => .inr (.inr (.inr (.inl hD)))), h.y.base (fun s hs l hl => .inr (.inr (.inl ⟨s, hs, hl⟩)))⟩
  refine ⟨fun i blk hi hnv => ?_, h.m.inj, h.m.dom, Ext.refl _ _, h.m.glob, fun a v e => ?_, fun k hk => ⟨(h.m.nc k hk).1, .inr (.inr (.inr (.inl hk)))⟩,
    fun a v hk => ⟨(h.m.kn a v hk).1, .inr (.inr (.inr (.inr ⟨a, v, hk, rfl⟩))), (h.m.kn a v hk).2.2⟩, fun i blk v n l hi hv => (h.m.vec i blk v n l hi hv).kept (fun b cap hb _ => .inr (.inl ⟨i, .inr ⟨blk, v, n, l, cap, hi, hv, hb⟩⟩)) (fun _ _ _ => rfl), h.m.sep⟩
  · obtain ⟨b, us, fz, h1, h2, h3, h4⟩ := h.m.mem i blk hi hnv
    exact ⟨b, us, fz, h1, h2, h3, fun hro => ⟨(h4 hro).1, .inr (.inl ⟨i, .inl ⟨blk, hi, hnv, hro, h1⟩⟩)⟩⟩
  · obtain ⟨h1, h2, h3⟩ := h.m.old a v e
    refine ⟨h.m.cell e, Nat.lt_of_lt_of_le h2 h.m.ext.size, fun hx => ?_⟩
    rcases own_ours h.m h.y hx with h4 | h4
    · omega
    · exact h3 h4

theorem Rel.unbase {c : Cfg A} {X : Nat → Prop} {W0 W W' : World} {β β' : Adr} {st st' : St A} {a a' : Act} (h : Rel c X W0 β st a W) (h' : Rel c (own c β st.m) W β' st' a' W') (hle : Adr.le β β') : Rel c X W0 β' st' a' W' ∧ NX c β W W' := by
  have ours : ∀ {b}, (W.heap.size ≤ b ∨ own c β st.m b) → W0.heap.size ≤ b ∨ X b := by
    rintro b (hb | hb)
    · exact .inl (Nat.le_trans h.m.ext.size hb)
    · exact own_ours h.m h.y hb
  refine ⟨⟨h'.t, ⟨fun i blk hi hnv => ?_, h'.m.inj, h'.m.dom, ?_, h'.m.glob, h.m.old, fun k hk => ⟨(h'.m.nc k hk).1, ours (h'.m.nc k hk).2⟩,
    fun a v hk => ⟨(h'.m.kn a v hk).1, ours (h'.m.kn a v hk).2.1, (h'.m.kn a v hk).2.2⟩, fun i blk v n l hi hv => (h'.m.vec i blk v n l hi hv).kept (fun b cap hb ho => ours ho) (fun _ _ _ => rfl), h'.m.sep⟩, h'.top, h'.d.base (fun D _ hD => ours hD), ?_⟩, ?_⟩
  · obtain ⟨b, us, fz, h1, h2, h3, h4⟩ := h'.m.mem i blk hi hnv
    exact ⟨b, us, fz, h1, h2, h3, fun hro => ⟨(h4 hro).1, ours (h4 hro).2⟩⟩
  · refine ⟨h'.m.ext.os.trans h.m.ext.os, h'.m.ext.tape.trans h.m.ext.tape, h'.m.ext.output.trans h.m.ext.output, Nat.le_trans h.m.ext.size h'.m.ext.size, fun k hk hx => ?_⟩
    rw [h'.m.ext.block k (Nat.lt_of_lt_of_le hk h.m.ext.size) (fun hx' => ?_)]
    · exact h.m.ext.block k hk hx
    · rcases own_ours h.m h.y hx' with h5 | h5
      · omega
      · exact hx h5
  · refine h'.y.base (fun s hs l hl => ?_)
    obtain ⟨e, l', rec, k1, _, k3, _⟩ := h'.y.has s hs
    have : l' = l := Option.some.inj (k1.symm.trans hl)
    subst this
    exact ours k3
  · intro k o ho hc hs
    by_cases hk : own c β st.m k
    · have hkp := own_not h.m ho hc hs hk
      rw [(h.m.nc k hkp).1] at ho
      cases ho
      exact (h'.m.nc k (hle.kp k hkp)).1
    · rw [h'.m.ext.block k (Array.getElem?_eq_some_iff.1 ho).1 hk]
      exact ho

/-- A record that is not at hand turns. -/
theorem Rel.putLoop {c : Cfg A} {X : Nat → Prop} {W0 W : World} {β : Adr} {st : St A} {a : Act} (h : Rel c X W0 β st a W) {l : Nat} {rec : Loop} (hl : W.heap[l]? = some (.loop rec)) (ho : W0.heap.size ≤ l ∨ X l) (hs : ∀ s ∈ c.ys, β s.ix ≠ some l) (rec' : Loop) :
    Rel c X W0 β st a (W.putObj l (.loop rec')) := by
  have oth : ∀ {k : Nat} {o : Obj}, W.heap[k]? = some o → (∀ r, o ≠ .loop r) → (W.putObj l (.loop rec')).heap[k]? = some o := by
    intro k o hk hn
    rw [World.putObj_heap_other]
    · exact hk
    · rintro rfl
      rw [hl] at hk
      cases hk
      exact hn rec rfl
  have cells : ∀ {k : Nat} {cs t fz}, W.heap[k]? = some (.cells cs t fz) → (W.putObj l (.loop rec')).heap[k]? = W.heap[k]? := by
    intro k cs t fz hk
    rw [hk]
    exact oth hk (fun r e => by cases e)
  refine ⟨h.t, ⟨fun i blk hi hnv => ?_, h.m.inj, fun i b hb => by rw [World.putObj_size]; exact h.m.dom i b hb, ?_, h.m.glob, h.m.old, fun k hk => ⟨oth (h.m.nc k hk).1 (fun r e => by cases e), (h.m.nc k hk).2⟩, fun a v hk => ?_,
    fun i blk v n l' hi hv => (h.m.vec i blk v n l' hi hv).kept (fun _ _ _ h => h) (fun b cap hb => ?_), h.m.sep⟩, h.top, h.d, ?_⟩
  rotate_left 2
  · obtain ⟨k1, k2, k3⟩ := h.m.kn a v hk
    obtain ⟨cs, t, fz, k4⟩ := cell?_heap k1
    exact ⟨cell?_same k1 (cells k4), k2, k3⟩
  · obtain ⟨cs, t, k4, _⟩ := vecIn.block h.m ⟨blk, v, n, l', cap, hi, hv, hb⟩
    exact cells k4
  rotate_left 1
  · obtain ⟨b, us, fz, h1, h2, h3, h4⟩ := h.m.mem i blk hi hnv
    exact ⟨b, us, fz, h1, h2, oth h3 (fun r e => by cases e), h4⟩
  · refine ⟨h.m.ext.os, h.m.ext.tape, h.m.ext.output, by rw [World.putObj_size]; exact h.m.ext.size, fun k hk hx => ?_⟩
    rw [World.putObj_heap_other]
    · exact h.m.ext.block k hk hx
    · rintro rfl
      rcases ho with ho | ho
      · omega
      · exact hx ho
  · refine h.y.kept' (Adr.le_refl β) (fun s hs' k r hk hr => ?_)
    rw [World.putObj_heap_other]
    · exact hr
    · rintro rfl
      exact hs s hs' hk

theorem bind_is {β : Adr} : ∀ (ps : List Tmp) (args : List (TV A)) (vs : List Value) (t : List (TV A)) (us : Array Value), TsIs β args vs → TsIs β t us.toList →
    TsIs β (bindPs ps args t) ((ps.toArray.zip vs.toArray).foldl (fun t (x : Tmp × Value) => t.setIfInBounds x.1 x.2) us).toList := by
  intro ps args vs t us ha ht
  have e : (ps.toArray.zip vs.toArray).foldl (fun t (x : Tmp × Value) => t.setIfInBounds x.1 x.2) us = (ps.zip vs).foldl (fun t (x : Tmp × Value) => t.setIfInBounds x.1 x.2) us := by
    rw [← Array.foldl_toList]; simp
  rw [e]
  clear e
  induction ps generalizing args vs t us with
  | nil => simpa [bindPs] using ht
  | cons p ps ih =>
    cases args with
    | nil => obtain rfl : vs = [] := ha; simpa [bindPs] using ht
    | cons x xs =>
      obtain ⟨v, r, h1, h2, rfl⟩ := ha
      simp only [List.zip_cons_cons, List.foldl_cons, bindPs]
      exact ih xs r _ _ h2 (by simpa using ht.set h1)

/-- Calls of yield with one loop more are right. -/
theorem pushY_ok {c : Cfg A} (hc : YOK c) {fa fb : St A → Option (Ex × St A)} {s : Ys A} (ha : Sound c s.assign fa) (hb : Sound c s.body fb) (hvb : ∀ st e st', fb st = some (e, st') → ∀ p ∈ st.vc, p ∈ st'.vc) (c1 : Cfg A)
    (hP : c1.P = c.P) (hgl : c1.gl = c.gl) (hold : c1.old = c.old) (hys : c1.ys = s :: c.ys) (hyf : c1.yf = pushY fa fb s c.yf) : YOK c1 := by
  have mto : ∀ {X W0 β m W}, MRel c1 X W0 β m W → MRel c X W0 β m W := fun hm => ⟨hm.mem, hm.inj, hm.dom, hm.ext, by rw [← hgl]; exact hm.glob, by rw [← hold]; exact hm.old, hm.nc, hm.kn, by rw [← hP]; exact hm.vec, hm.sep⟩
  have mof : ∀ {X W0 β m W}, MRel c X W0 β m W → MRel c1 X W0 β m W := fun hm => ⟨hm.mem, hm.inj, hm.dom, hm.ext, by rw [hgl]; exact hm.glob, by rw [hold]; exact hm.old, hm.nc, hm.kn, by rw [hP]; exact hm.vec, hm.sep⟩
  intro i args rd m pd b m' pd' vc h hvc X W0 W β vs hm htop hy hvs l hl
  rw [hyf] at h
  rw [hys] at hy
  unfold pushY at h
  split at h
  · cases h
  · rename_i e rest
    obtain ⟨hat, hdis, hrest⟩ := hy
    split at h
    · rename_i hi
      have hi := Nat.eq_of_beq_eq_true hi
      subst hi
      split at h
      · split at h
        · rename_i e' m2 rest' vc2 hrf
          simp only [Option.some.injEq, Prod.mk.injEq] at h
          obtain ⟨rfl, rfl, rfl, rfl⟩ := h
          obtain ⟨l', rec, g1, g2, g3, g4, g5, g6, g7, g8, g9⟩ := hat
          obtain rfl : l' = l := Option.some.inj (g1.symm.trans hl)
          unfold roundF at hrf
          split at hrf
          · rename_i hlen
            have hdis' : ∀ s' ∈ c.ys, β s'.ix ≠ some l' := fun s' hs' e => hdis s' hs' (e.trans hl.symm)
            have hvl : vs.length = rec.params.size := by
              have h1 : rec.params.toList.length = s.ps.length := by rw [g4]
              have h2 : ∀ {l : List (TV A)} {vs : List Value}, TsIs β l vs → vs.length = l.length := by
                intro l
                induction l with
                | nil => rintro vs rfl; rfl
                | cons x l ih => rintro _ ⟨v, r, _, k, rfl⟩; simp [ih k]
              rw [h2 hvs]
              simp at h1
              omega
            refine ⟨rec, g2, hvl, fun r n => roundIn_of_wpIn trivial ?_⟩
            split at hrf
            · rename_i s1 h1
              have key : ∀ (e2 : Ex) (s2 : St A), fb s1 = some (e2, s2) → e' = (match e2 with | .normal => none | e => some e) → m2 = s2.m → rest' = s2.pd → vc2 = s2.vc →
                  rec.assign.wpIn ((Fr r).inRound l') n c1.P (Exit.then (fun a₁ w₁ => ∃ w₂, (Instr.beginRound l').run c1.P w₁ = .ok () w₂ ∧ rec.body.wpIn ((Fr r).inRound l') n c1.P (roundPost c1.P l' (fun e W' => e = .returned (.bool e'.isNone) ∧
                    ∃ β', Adr.le β β' ∧ MRel c1 X W0 β' m2 W' ∧ Top β' m2 ∧ YAll X W0 β' c1.ys (e' :: rest') W' ∧ NX c1 β W W')) a₁ w₂) (fun _ _ _ => False))
                    { tmps := (rec.params.zip vs.toArray).foldl (fun t (x : Tmp × Value) => t.setIfInBounds x.1 x.2) rec.tmps, defers := [] } W := by
                intro e2 s2 h2 he' hm2 hr2 hv2
                subst hm2 hr2 hv2
                have hv1 : ∀ p ∈ s1.vc, p := fun p hp => hvc p (hvb _ _ _ h2 p hp)
                have R0 : Rel c X W0 β ⟨bindPs s.ps args s.t, m, rd, [], rest⟩ { tmps := (rec.params.zip vs.toArray).foldl (fun t (x : Tmp × Value) => t.setIfInBounds x.1 x.2) rec.tmps, defers := [] } W := by
                  refine ⟨⟨?_⟩, mto hm, htop, trivial, hrest⟩
                  have := bind_is s.ps args vs s.t rec.tmps hvs g7
                  rw [← g4] at this ⊢
                  simpa using this
                have notown : ∀ {β1 : Adr} {m1 : Mem A} {W1 : World} {rec1 : Loop}, Adr.le β β1 → MRel c X W0 β1 m1 W1 → W1.heap[l']? = some (.loop rec1) → ¬ own c β1 m1 l' := by
                  intro β1 m1 W1 rec1 hle hm1 hl1 ho
                  have := own_not hm1 hl1 rfl (fun s' hs' e => by
                    obtain ⟨_, k, _, k1, _⟩ := hrest.has s' hs'
                    rw [hle.pl _ _ k1] at e
                    exact hdis' s' hs' (k1.trans e)) ho
                  rw [(hm1.nc _ this).1] at hl1
                  cases hl1
                have lift : ∀ {β1 : Adr}, Adr.le β β1 → ∀ s' ∈ c.ys, ∀ k, β s'.ix ≠ some k → β1 s'.ix ≠ some k := by
                  intro β1 hle s' hs' k hk e
                  obtain ⟨_, k', _, k1, _⟩ := hrest.has s' hs'
                  rw [hle.pl _ _ k1] at e
                  exact hk (k1.trans e)
                rw [hP, g5]
                show s.assign.wpIn (Fr (some l')) n c.P _ _ _
                refine ha (some l') n (own c β m) W _ _ .normal s1 β _ W (fun k hk => ?_) h1 hv1 R0.rebase (fun β1 a1 W1 hle1 R1' => ?_)
                · obtain rfl := Option.some.inj hk
                  exact ⟨(Array.getElem?_eq_some_iff.1 g2).1, notown (Adr.le_refl β) (mto hm) g2, rec, g2⟩
                · obtain ⟨R1, nx1⟩ := R0.unbase R1' hle1
                  have hl1 : W1.heap[l']? = some (.loop rec) := nx1 l' _ g2 rfl hdis'
                  have hdis1 : ∀ s' ∈ c.ys, β1 s'.ix ≠ some l' := fun s' hs' => lift hle1 s' hs' l' (hdis' s' hs')
                  refine ⟨_, run_beginRound hl1 g8, ?_⟩
                  have R2 := R1.putLoop hl1 g3 hdis1 { rec with state := .busy }
                  have hl2 : (W1.putObj l' (.loop { rec with state := .busy })).heap[l']? = some (.loop { rec with state := .busy }) := World.putObj_heap_same (Array.getElem?_eq_some_iff.1 hl1).1
                  refine Eq.mpr (congrArg (fun z : Code => z.wpIn (Fr (some l')) n c.P _ a1 _) g6) ?_
                  refine hb (some l') n (own c β1 s1.m) _ _ s1 e2 s2 β1 a1 _ (fun k hk => ?_) h2 hvc R2.rebase (fun β2 a2 W3 hle2 R3' => ?_)
                  · obtain rfl := Option.some.inj hk
                    exact ⟨(Array.getElem?_eq_some_iff.1 hl2).1, notown hle1 R2.m hl2, _, hl2⟩
                  · obtain ⟨R3, nx3⟩ := R2.unbase R3' hle2
                    have hl3 : W3.heap[l']? = some (.loop { rec with state := .busy }) := nx3 l' _ hl2 rfl hdis1
                    have hle := Adr.le_trans hle1 hle2
                    have hdis3 : ∀ s' ∈ c.ys, β2 s'.ix ≠ some l' := fun s' hs' => lift hle s' hs' l' (hdis' s' hs')
                    have fin : ∀ jump : Option Code, (match e' with | none => jump = none | some e => jump = some e.code) → ∃ v w', (Instr.endRound l' jump).run c.P W3 = .ok v w' ∧ Ending.returned v = .returned (.bool e'.isNone) ∧
                        ∃ β', Adr.le β β' ∧ MRel c1 X W0 β' s2.m w' ∧ Top β' s2.m ∧ YAll X W0 β' c1.ys (e' :: s2.pd) w' ∧ NX c1 β W w' := by
                      intro jump hj
                      have hl4 : ∀ o, (W3.putObj l' o).heap[l']? = some o := fun o => World.putObj_heap_same (Array.getElem?_eq_some_iff.1 hl3).1
                      have R4 := R3.putLoop hl3 g3 hdis3 { rec with state := if jump.isNone then .ready else .done, pending := jump }
                      refine ⟨_, _, run_endRound jump hl3, ?_, β2, hle, mof R4.m, R4.top, ?_, ?_⟩
                      · cases e' <;> simp only at hj <;> subst hj <;> rfl
                      · rw [hys]
                        refine ⟨⟨l', _, hle.pl _ _ hl, hl4 _, g3, g4, g5, g6, g7.mono hle, ?_⟩, fun s' hs' => ?_, R4.y⟩
                        · cases e' <;> simp only at hj <;> subst hj <;> exact ⟨rfl, rfl⟩
                        · rw [hle.pl _ _ hl]; exact hdis3 s' hs'
                      · intro k o hk ho hs
                        rw [hys] at hs
                        have hkl : k ≠ l' := fun e => hs s (by simp) (by rw [e]; exact hl)
                        have hs' : ∀ s' ∈ c.ys, β s'.ix ≠ some k := fun s' hs' => hs s' (by simp [hs'])
                        rw [World.putObj_heap_other hkl]
                        refine nx3 k o ?_ ho (fun s' h' => lift hle1 s' h' k (hs' s' h'))
                        rw [World.putObj_heap_other hkl]
                        exact nx1 k o hk ho hs'
                    cases e2 with
                    | normal => subst he'; obtain ⟨v, w', k1, k2, k3⟩ := fin none rfl; exact ⟨v, w', k1, k2, k3⟩
                    | ret => subst he'; obtain ⟨v, w', k1, k2, k3⟩ := fin (some .ret) rfl; exact ⟨v, w', k1, k2, k3⟩
                    | exit id => subst he'; obtain ⟨v, w', k1, k2, k3⟩ := fin (some (.exit id)) rfl; exact ⟨v, w', k1, k2, k3⟩
              split at hrf
              · rename_i s2 h2
                simp only [Option.some.injEq, Prod.mk.injEq] at hrf
                obtain ⟨rfl, rfl, rfl, rfl⟩ := hrf
                exact key .normal s2 h2 rfl rfl rfl rfl
              · rename_i e2 s2 hne h2
                simp only [Option.some.injEq, Prod.mk.injEq] at hrf
                obtain ⟨rfl, rfl, rfl, rfl⟩ := hrf
                refine key e2 s2 h2 ?_ rfl rfl rfl
                cases e2 with
                | normal => exact absurd rfl (hne)
                | _ => rfl
              · cases hrf
            · cases hrf
          · cases hrf
        · cases h
      · cases h
    · split at h
      · rename_i b2 m2 rest' vc2 hyf2
        simp only [Option.some.injEq, Prod.mk.injEq] at h
        obtain ⟨rfl, rfl, rfl, rfl⟩ := h
        obtain ⟨rec, h1, h2, h3⟩ := hc i args rd m rest _ _ _ _ hyf2 hvc X W0 W β vs (mto hm) htop hrest hvs l hl
        refine ⟨rec, h1, h2, fun r n => ?_⟩
        rw [hP]
        refine (h3 r n).mono ?_
        rintro e2 W' ⟨k0, β', k1, k2, k3, k4, k5⟩
        have hat' := hat
        obtain ⟨l0, rec0, g1, g2, g3⟩ := hat'
        have hnx : ∀ s' ∈ c.ys, β s'.ix ≠ some l0 := fun s' hs' e => hdis s' hs' (e.trans g1.symm)
        refine ⟨k0, β', k1, mof k2, k3, ?_, ?_⟩
        · rw [hys]
          refine ⟨hat.kept k1 (fun l1 r1 e1 e2 => ?_), fun s' hs' => ?_, k4⟩
          · obtain rfl : l0 = l1 := Option.some.inj (g1.symm.trans e1)
            exact k5 l0 _ e2 rfl hnx
          · obtain ⟨_, l2, _, j1, _⟩ := hrest.has s' hs'
            have := hdis s' hs'
            rw [j1, g1] at this
            rw [k1.pl _ _ j1, k1.pl _ _ g1]
            exact this
        · intro k o hk ho hs
          rw [hys] at hs
          exact k5 k o hk ho (fun s' hs' => hs s' (by simp [hs']))
      · cases h

/-- A place for what holds no cells. -/
theorem MRel.hole {c c1 : Cfg A} {X : Nat → Prop} {W0 W : World} {β : Adr} {m : Mem A} {l : Nat} (h : MRel c X W0 β m W) (hP : c1.P = c.P) (hgl : c1.gl = c.gl) (hold : c1.old = c.old) (hk : β m.length = none) (hl : l < W.heap.size) {kp : Nat → Prop}
    (hle : ∀ k, β.kp k → kp k) (hkp : ∀ k, kp k → W.heap[k]? = some (.deferred (some [])) ∧ (W0.heap.size ≤ k ∨ X k)) : MRel c1 X W0 ⟨(β.put m.length l).pl, kp, β.kn, β.gs⟩ (m ++ [none]) W := by
  have le1 : Adr.le β ⟨(β.put m.length l).pl, kp, β.kn, β.gs⟩ := ⟨(Adr.le_put hk).pl, hle, fun _ _ h => h, fun _ _ _ h => h⟩
  have at1 : ∀ {i b}, (⟨(β.put m.length l).pl, kp, β.kn, β.gs⟩ : Adr) i = some b → (i = m.length ∧ b = l) ∨ (i ≠ m.length ∧ β i = some b) := by
    intro i b hi
    change (if i = m.length then some l else β i) = some b at hi
    split at hi
    · rename_i e; exact .inl ⟨e, (Option.some.inj hi).symm⟩
    · rename_i e; exact .inr ⟨e, hi⟩
  have live : ∀ {i : Nat} {blk : Blk A}, nth (m ++ [none]) i = some (some blk) → nth m i = some (some blk) := by
    intro i blk hi
    have hlt := nth_lt hi
    simp at hlt
    by_cases e : i = m.length
    · subst e; rw [nth_snoc] at hi; simp at hi
    · rw [nth_append_lt (by omega)] at hi; exact hi
  have vin : ∀ {i b}, vecIn ⟨(β.put m.length l).pl, kp, β.kn, β.gs⟩ (m ++ [none]) i b → vecIn β m i b := by
    rintro i b ⟨blk, v, n, l', cap, g1, g2, g3⟩
    exact ⟨blk, v, n, l', cap, live g1, g2, g3⟩
  have atl : ∀ {i b} {blk : Blk A}, nth (m ++ [none]) i = some (some blk) → (⟨(β.put m.length l).pl, kp, β.kn, β.gs⟩ : Adr) i = some b → β i = some b := by
    intro i b blk hi hb
    have := nth_lt (live hi)
    rcases at1 hb with ⟨e, _⟩ | ⟨_, h⟩
    · omega
    · exact h
  refine ⟨fun i blk hi hnv => ?_, fun i j bi bj b li lj hi hj => ?_, fun i b hi => ?_, h.ext, by rw [hgl]; exact fun g i e => le1.pl _ _ (h.glob g i e), by rw [hold]; exact h.old, hkp, fun a v hkn => ?_, fun i blk v n l' hi hv => ?_, fun i b hv j => ?_⟩
  rotate_left 3
  · obtain ⟨k1, k2, k3⟩ := h.kn a v hkn
    refine ⟨k1, k2, fun i hw => ?_⟩
    rcases hw with ⟨blk, w1, w2, w3, w4⟩ | ⟨blk, v1, n1, l1, cap1, w1, w2⟩
    · exact k3 i (.inl ⟨blk, live w1, w2, w3, atl w1 w4⟩)
    · exact k3 i (.inr ⟨blk, v1, n1, l1, cap1, live w1, w2⟩)
  · have g := h.vec i blk v n l' (live hi) hv
    have hlt := nth_lt (live hi)
    rw [hP]
    refine g.mono le1 ?_ g.last
    show (if i = m.length then some l else β i) = none
    rw [if_neg (by omega)]
    exact g.free
  · obtain ⟨s1, s2⟩ := h.sep i b (vin hv) j
    exact ⟨fun blk hj e => s1 blk (live hj) (atl hj e), fun hv' => s2 (vin hv')⟩
  · obtain ⟨b, us, fz, h1, h2, h3, h4⟩ := h.mem i blk (live hi) hnv
    exact ⟨b, us, fz, le1.pl _ _ h1, h2.mono le1, h3, h4⟩
  · have hi' := nth_lt (live li)
    have hj' := nth_lt (live lj)
    rcases at1 hi with ⟨e, _⟩ | ⟨_, hi⟩
    · omega
    · rcases at1 hj with ⟨e, _⟩ | ⟨_, hj⟩
      · omega
      · exact h.inj i j bi bj b (live li) (live lj) hi hj
  · rcases at1 hi with ⟨_, rfl⟩ | ⟨_, hi⟩
    · exact hl
    · exact h.dom i b hi

/-- A loop over a function. -/
theorem rangeX_sound {c : Cfg A} (hc : CfgOK c) {g : Operand} {ps : Array Tmp} {x y : Code} {fa fb : St A → Option (Ex × St A)} (ha : Sound c x fa) (hb : Sound c y fb) (hvb : ∀ st e st', fb st = some (e, st') → ∀ p ∈ st.vc, p ∈ st'.vc)
    {gf : FuncId} {cap : List (Nat × Nat)} {r : Option Nat} {n : Nat} {X : Nat → Prop} {W0 W : World} {Q : Exit → Act → World → Prop} {st st' : St A} {e : Ex} {β : Adr} {a : Act} (hrnd : RndOK r X W0)
    (hg : evO c st g = some (.val false [.f gf cap])) (h : rangeX c gf cap ⟨st.m.length, ps.toList, x, y, st.t⟩ fa fb st = some (e, st')) (hvc : ∀ p ∈ st'.vc, p) (hr : Rel c X W0 β st a W)
    (hQ : ∀ β' a' W', Adr.le β β' → Rel c X W0 β' st' a' W' → Q e.toExit a' W') : (Code.rangeFunc g ps x y).wpIn (Fr r) n c.P Q a W := by
  obtain ⟨s, hs⟩ : ∃ s : Ys A, s = ⟨st.m.length, ps.toList, x, y, st.t⟩ := ⟨_, rfl⟩
  rw [← hs] at h
  unfold rangeX at h
  split at h
  · rename_i m' e0 pd' vc hit
    simp only [Option.some.injEq, Prod.mk.injEq] at h
    obtain ⟨he, rfl⟩ := h
    have hvc' : ∀ p ∈ vc, p := fun p hp => hvc p (List.mem_append_left _ hp)
    obtain ⟨cs, hcs, ev⟩ := LIs.single (evO_is hr.t hr.m hg : LIs β _ [a.eval g])
    simp at ev
    obtain ⟨c1, hc1⟩ : ∃ c1 : Cfg A, c1 = { c with ys := s :: c.ys, yf := pushY fa fb s c.yf } := ⟨_, rfl⟩
    have e1 : c1.P = c.P := by rw [hc1]
    have e2 : c1.gl = c.gl := by rw [hc1]
    have e3 : c1.old = c.old := by rw [hc1]
    have e4 : c1.ys = s :: c.ys := by rw [hc1]
    have e5 : c1.yf = pushY fa fb s c.yf := by rw [hc1]
    have yok : YOK c1 := pushY_ok hc.ys (by rw [hs]; exact ha) (by rw [hs]; exact hb) hvb c1 e1 e2 e3 e4 e5
    refine wpIn_rangeFunc ?_
    intro fn _
    -- what the loop's entry lays
    have entry : ∃ (l : Nat) (mark : List Deferred) (W1 : World) (D0 : Nat), (Instr.enterLoop fn a.tmps ps x y r).run c.P W = .ok (l, mark) W1 ∧ Keeps W W1 ∧ W.heap.size ≤ l ∧
        W1.heap[l]? = some (.loop { state := .ready, pending := none, fn, tmps := a.tmps, params := ps, assign := x, body := y, defers := D0 }) ∧
        (mark = [] ∨ (mark = [{ target := .collected W.heap.size, args := #[] }] ∧ W1.heap[W.heap.size]? = some (.deferred (some [])))) := by
      cases r with
      | none =>
        refine ⟨W.heap.size + 1, _, _, W.heap.size, run_enterLoop_outer _ _ _ _ _, (Keeps.alloc _ _).trans (Ext.mono (Keeps.alloc _ _) (fun _ _ h => h)), by omega, ?_, .inr ⟨rfl, ?_⟩⟩
        · have := World.alloc_heap_new (W.alloc (.deferred (some []))) (.loop { state := .ready, pending := none, fn, tmps := a.tmps, params := ps, assign := x, body := y, defers := W.heap.size })
          rwa [World.size_alloc] at this
        · exact (Below.heap_alloc _ _ _ (by simp)).trans (World.alloc_heap_new W _)
      | some l0 =>
        obtain ⟨k1, k2, rec0, k3⟩ := hrnd l0 rfl
        have k4 : W.heap[l0]? = some (.loop rec0) := by rw [hr.m.ext.block l0 k1 k2]; exact k3
        exact ⟨W.heap.size, [], _, rec0.defers, run_enterLoop_inner k4 _ _ _ _ _, Keeps.alloc _ _, Nat.le_refl _, World.alloc_heap_new W _, .inl rfl⟩
    obtain ⟨l, mark, W1, D0, hent, hkeep, hlge, hrec, hmark⟩ := entry
    have hk := (hr.top st.m.length (Nat.le_refl _)).1
    have hl1 : l < W1.heap.size := (Array.getElem?_eq_some_iff.1 hrec).1
    have hm1 := hr.m.keeps hkeep
    obtain ⟨β1, hβ1⟩ : ∃ β1 : Adr, β1 = ⟨(β.put st.m.length l).pl, fun k => β.kp k ∨ (mark ≠ [] ∧ k = W.heap.size), β.kn, β.gs⟩ := ⟨_, rfl⟩
    have le1 : Adr.le β β1 := by rw [hβ1]; exact ⟨(Adr.le_put hk).pl, fun k hk => .inl hk, fun _ _ h => h, fun _ _ _ h => h⟩
    have hM1 : MRel c1 X W0 β1 (st.m ++ [none]) W1 := by
      rw [hβ1]
      refine hm1.hole e1 e2 e3 hk hl1 (fun k hk => .inl hk) (fun k hk => ?_)
      rcases hk with hk | ⟨hne, rfl⟩
      · exact hm1.nc k hk
      · rcases hmark with hmk | ⟨_, hmk⟩
        · exact absurd hmk hne
        · exact ⟨hmk, .inl hr.m.ext.size⟩
    have hT1 : Top β1 (st.m ++ [none]) := by
      rw [hβ1]
      intro i hi
      simp at hi
      refine ⟨?_, (hr.top i (by omega)).2⟩
      show (if i = st.m.length then some l else β i) = none
      rw [if_neg (by omega)]
      exact (hr.top i (by omega)).1
    have hLl : β1 s.ix = some l := by
      rw [hβ1, hs]
      show (if st.m.length = st.m.length then some l else _) = some l
      rw [if_pos rfl]
    have hold : ∀ s' ∈ c.ys, ∃ l', β s'.ix = some l' ∧ l' < W.heap.size := by
      intro s' hs'
      obtain ⟨_, l', _, k1, k2, _⟩ := hr.y.has s' hs'
      exact ⟨l', k1, (Array.getElem?_eq_some_iff.1 k2).1⟩
    have hY1 : YAll X W0 β1 (s :: c.ys) (none :: st.pd) W1 := by
      refine ⟨⟨l, _, hLl, hrec, .inl (Nat.le_trans hr.m.ext.size hlge), by rw [hs], by rw [hs], by rw [hs], by rw [hs]; exact hr.t.tmps.mono le1, rfl, rfl⟩, fun s' hs' => ?_, hr.y.kept le1 hkeep.nc⟩
      obtain ⟨l', k1, k2⟩ := hold s' hs'
      rw [le1.pl _ _ k1, hLl]
      intro e
      have := Option.some.inj e
      omega
    have hargs : TsIs (A := A) β1 (.val false [.y s.ix] :: capsTV cap) (.func (.yield l) #[] #[] :: cs) := ⟨_, _, LIs.of_single ⟨l, hLl, rfl⟩, (capsTV_is hcs).mono le1, rfl⟩
    obtain ⟨eg, hcall⟩ := hc.its gf _ _ _ _ _ _ _ _ _ hit hvc' c1 e1 e2 e3 e4 e5 yok X W0 W1 β1 _ hM1 hT1 hY1 hargs
    have eargs : #[Value.func (.yield l) #[] #[]] ++ cs.toArray = (Value.func (.yield l) #[] #[] :: cs).toArray := Array.toList_inj.1 (by simp)
    refine ⟨l, mark, W1, { target := .fn (.func gf) cs.toArray, args := #[.func (.yield l) #[] #[]] }, W1, gf, #[.func (.yield l) #[] #[]] ++ cs.toArray, W1, hent, ?_, fun f' _ => trivial, ?_, fun hx => by simp [Fr, Fence.wide] at hx, ?_⟩
    · simp only [resolve, ev]
      simp [go_sem]
    · simp [invoke, go_sem, eg]
    · rw [eargs]
      refine (callsIn_fr hcall).mono ?_
      rintro e2' W2 ⟨⟨v, rfl⟩, β2, le2, hM2, hT2, ⟨hat, hdis, hrest⟩⟩
      obtain ⟨l', rec, g1, g2, g3, g4, g5, g6, g7, g8⟩ := hat
      obtain rfl : l = l' := Option.some.inj ((le2.pl _ _ hLl).symm.trans g1)
      have hns : rec.state ≠ .busy := by cases e0 <;> (obtain ⟨g8, _⟩ := g8; rw [g8]; simp)
      have hpe : rec.pending = e0.map Ex.code := by cases e0 <;> exact g8.2
      have hle := Adr.le_trans le1 le2
      refine ⟨rec.pending, _, run_endLoop g2 hns, ?_⟩
      have R : Rel c X W0 β2 { st with m := m', pd := pd', vc := vc ++ st.vc } { a with defers := mark ++ a.defers } (W2.putObj l (.loop { rec with state := .exhausted })) := by
        have hM2' : MRel c X W0 β2 m' W2 := ⟨hM2.mem, hM2.inj, hM2.dom, hM2.ext, by rw [← e2]; exact hM2.glob, by rw [← e3]; exact hM2.old, hM2.nc, hM2.kn, by rw [← e1]; exact hM2.vec, hM2.sep⟩
        have hd : Defs (fun k => W0.heap.size ≤ k ∨ X k) β2 (mark ++ a.defers) := by
          have hd0 := hr.d.mono hle
          rcases hmark with hmk | ⟨hmk, hD⟩
          · rw [hmk]; exact hd0
          · rw [hmk]
            refine ⟨⟨W.heap.size, rfl, le2.kp _ (by rw [hβ1]; exact .inr ⟨by rw [hmk]; simp, rfl⟩), .inl hr.m.ext.size, fun d' hd' => ?_⟩, hd0⟩
            have : ∀ {ds : List Deferred}, Defs (fun k => W0.heap.size ≤ k ∨ X k) β ds → ∀ d' ∈ ds, ∃ D, d' = { target := .collected D, args := #[] } ∧ β.kp D := by
              intro ds
              induction ds with
              | nil => intro _ d' h; cases h
              | cons d ds ih =>
                rintro ⟨⟨D, k1, k2, _⟩, k3⟩ d' hd'
                rcases List.mem_cons.1 hd' with rfl | hd'
                · exact ⟨D, k1, k2⟩
                · exact ih k3 d' hd'
            obtain ⟨D, rfl, hk2⟩ := this hr.d d' hd'
            have hlt := (Array.getElem?_eq_some_iff.1 (hr.m.nc D hk2).1).1
            intro e
            simp at e
            omega
        exact Rel.putLoop (c := c) (st := { st with m := m', pd := pd', vc := vc ++ st.vc }) (a := { a with defers := mark ++ a.defers }) ⟨⟨hr.t.tmps.mono hle⟩, hM2', hT2, hd, hrest⟩ g2 g3 (fun s' hs' e => hdis s' hs' (e.trans g1.symm)) _
      have hq := hQ β2 _ _ hle R
      split
      · rename_i hp
        rw [hpe] at hp
        cases e0 with
        | none => simp only at he; subst he; exact hq
        | some e0 => cases hp
      · rename_i cd hp
        rw [hpe] at hp
        cases e0 with
        | none => cases hp
        | some e0 =>
          obtain rfl := Option.some.inj hp
          simp only at he
          subst he
          cases e0 with
          | normal => exact wpIn_skip hq
          | ret => exact wpIn_ret hq
          | exit id => exact wpIn_exit hq
  · cases h

theorem exec_sound {c : Cfg A} (hc : CfgOK c) {fuel : Nat} : ∀ (x : Code), LoopsOK c x → Sound c x (exec c fuel x) := by
  intro x hl
  induction x with
  | skip =>
    intro r n X W0 Q st e st' β a W hrnd h hvc hr hQ
    simp [exec] at h
    obtain ⟨rfl, rfl⟩ := h
    exact wpIn_skip (hQ β a W (Adr.le_refl β) hr)
  | label l =>
    intro r n X W0 Q st e st' β a W hrnd h hvc hr hQ
    simp [exec] at h
    obtain ⟨rfl, rfl⟩ := h
    exact wpIn_label (hQ β a W (Adr.le_refl β) hr)
  | region id ops draw =>
    intro r n X W0 Q st e st' β a W hrnd h hvc hr hQ
    simp only [exec] at h
    split at h
    · rename_i st1 h1
      simp at h
      obtain ⟨rfl, rfl⟩ := h
      cases draw
      · simp only [Bool.false_eq_true, if_false] at h1
        exact wpIn_region_list (execOps_sound hc h1 hvc hr hQ)
      · simp only [if_true] at h1
        exact execDraw_sound hc h1 hvc hr hQ
    · cases h
  | seq x y ihx ihy =>
    intro r n X W0 Q st e st' β a W hrnd h hvc hr hQ
    simp only [exec] at h
    refine wpIn_seq ?_
    split at h
    · rename_i st1 h1
      have hv1 : ∀ p ∈ st1.vc, p := fun p hp => hvc p (exec_vc y _ _ _ h p hp)
      refine ihx (fun z hz => hl z (by simp [loopsOf, hz])) r n X W0 _ st .normal st1 β a W hrnd h1 hv1 hr (fun β' a' W' hle hr' => ?_)
      exact ihy (fun z hz => hl z (by simp [loopsOf, hz])) r n X W0 Q st1 e st' β' a' W' hrnd h hvc hr' (fun β'' a'' W'' hle' hr'' => hQ β'' a'' W'' (Adr.le_trans hle hle') hr'')
    · rename_i hne
      refine ihx (fun z hz => hl z (by simp [loopsOf, hz])) r n X W0 _ st e st' β a W hrnd h hvc hr (fun β' a' W' hle hr' => ?_)
      have := hQ β' a' W' hle hr'
      cases e with
      | normal => exact absurd h (hne st')
      | ret => exact this
      | exit id => exact this
  | cond q x y ihx ihy =>
    intro r n X W0 Q st e st' β a W hrnd h hvc hr hQ
    simp only [exec] at h
    split at h
    · rename_i tv hq
      have hi := evO_is hr.t hr.m hq
      split at h
      · rename_i hb
        exact wpIn_cond_true (boolOf_is hi hb) (ihx (fun z hz => hl z (by simp [loopsOf, hz])) r n X W0 Q _ e st' β a W hrnd h hvc hr hQ)
      · rename_i hb
        exact wpIn_cond_false (boolOf_is hi hb) (ihy (fun z hz => hl z (by simp [loopsOf, hz])) r n X W0 Q _ e st' β a W hrnd h hvc hr hQ)
      · cases h
    · cases h
  | block id x ih =>
    intro r n X W0 Q st e st' β a W hrnd h hvc hr hQ
    simp only [exec] at h
    refine wpIn_block ?_
    split at h
    · rename_i id' st1 h1
      split at h
      · rename_i hid
        simp at h
        obtain ⟨rfl, rfl⟩ := h
        refine ih (fun z hz => hl z (by simpa [loopsOf] using hz)) r n X W0 _ st (.exit id') st1 β a W hrnd h1 hvc hr (fun β' a' W' hle hr' => ?_)
        simp only [Ex.toExit, Exit.inBlock, hid, if_true]
        exact hQ β' a' W' hle hr'
      · rename_i hid
        simp at h
        obtain ⟨rfl, rfl⟩ := h
        refine ih (fun z hz => hl z (by simpa [loopsOf] using hz)) r n X W0 _ st (.exit id') st1 β a W hrnd h1 hvc hr (fun β' a' W' hle hr' => ?_)
        simp only [Ex.toExit, Exit.inBlock, hid, if_false]
        exact hQ β' a' W' hle hr'
    · rename_i hne
      refine ih (fun z hz => hl z (by simpa [loopsOf] using hz)) r n X W0 _ st e st' β a W hrnd h hvc hr (fun β' a' W' hle hr' => ?_)
      have := hQ β' a' W' hle hr'
      cases e with
      | normal => exact this
      | ret => exact this
      | exit id' => exact absurd h (hne id' st')
  | loop x ih =>
    intro r n X W0 Q st e st' β a W hrnd h hvc hr hQ
    simp only [exec] at h
    split at h
    · rename_i res ht
      obtain rfl := Option.some.inj h
      exact told_sound (y := .loop x) rfl (fun i pre e post h1 h2 => hl _ (by simp [loopsOf]) i pre e post h1 h2) r n X W0 Q st e st' β a W hrnd ht hvc hr hQ
    · exact wpIn_loop_rounds fuel (rounds_sound (ih (fun y hy => hl y (by simp [loopsOf, hy]))) (exec_vc x) hrnd fuel st e st' β a W h hvc hr hQ)
  | rangeFunc g ps x y ihx ihy =>
    intro r n X W0 Q st e st' β a W hrnd h hvc hr hQ
    simp only [exec] at h
    split at h
    · rename_i res ht
      obtain rfl := Option.some.inj h
      exact told_sound (y := .rangeFunc g ps x y) rfl (fun i pre e post h1 h2 => hl _ (by simp [loopsOf]) i pre e post h1 h2) r n X W0 Q st e st' β a W hrnd ht hvc hr hQ
    · split at h
      · rename_i gf cap hg
        exact rangeX_sound hc (ihx (fun z hz => hl z (by simp [loopsOf, hz]))) (ihy (fun z hz => hl z (by simp [loopsOf, hz]))) (exec_vc y) hrnd hg h hvc hr hQ
      · cases h
  | scope x ih =>
    intro r n X W0 Q st e st' β a W hrnd h hvc hr hQ
    simp only [exec] at h
    refine wpIn_scope (ih (fun z hz => hl z (by simpa [loopsOf] using hz)) r n X W0 _ st e st' β a W hrnd h hvc hr (fun β' a' W' hle hr' => ?_))
    have := hQ β' a' W' hle hr'
    cases e <;> exact this
  | exit id =>
    intro r n X W0 Q st e st' β a W hrnd h hvc hr hQ
    simp [exec] at h
    obtain ⟨rfl, rfl⟩ := h
    exact wpIn_exit (hQ β a W (Adr.le_refl β) hr)
  | ret =>
    intro r n X W0 Q st e st' β a W hrnd h hvc hr hQ
    simp [exec] at h
    obtain ⟨rfl, rfl⟩ := h
    exact wpIn_ret (hQ β a W (Adr.le_refl β) hr)
  | _ =>
    intro r n X W0 Q st e st' β a W hrnd h hvc hr hQ
    simp [exec] at h

/-! ### A function -/

def resV (c : Cfg A) (st : St A) : List ResultVar → Option (List (Bool × List (SV A)))
  | [] => some []
  | .tmp t :: r =>
    match nth st.t t, resV c st r with
    | some (.val g l), some rest => some ((g, l) :: rest)
    | _, _ => none
  | .cell p ty :: r =>
    match nth st.t p, resV c st r with
    | some tv, some rest =>
      match addrOf tv with
      | some (i, off) =>
        match nth st.m i with
        | some (some blk) =>
          match partV c.P ty blk.cells off with
          | some (.val g l) => some ((g, l) :: rest)
          | _ => none
        | _ => none
      | none => none
    | _, _ => none

def packV : List (Bool × List (SV A)) → TV A
  | [(g, l)] => .val g l
  | l => .tup l

/-- A call of a function with a body: its result, the memory behind it, the jumps, what must hold. -/
def runP (c : Cfg A) (fuel : Nat) (fn : Func) (args : List (TV A)) (m : Mem A) (pd : Pds) : Option (TV A × Mem A × Pds × List Prop) :=
  match fn.body with
  | some body =>
    match exec c fuel body ⟨args ++ List.replicate (fn.ntmps - args.length) undefT, m, 0, [], pd⟩ with
    | some (.exit _, _) => none
    | some (_, st) =>
      match resV c st fn.results.toList with
      | some l => some (packV l, st.m, st.pd, st.vc)
      | none => none
    | none => none
  | none => none

def run (c : Cfg A) (fuel : Nat) (fn : Func) (args : List (TV A)) (m : Mem A) : Option (TV A × Mem A × List Prop) :=
  match runP c fuel fn args m [] with
  | some (v, m', _, vc) => some (v, m', vc)
  | none => none

theorem TsIs.undefs (β : Adr) : ∀ n : Nat, TsIs β (List.replicate n (undefT : TV A)) (List.replicate n undef)
  | 0 => rfl
  | n + 1 => ⟨undef, _, undefT_is β, TsIs.undefs β n, rfl⟩

theorem TsIs.len {β : Adr} : ∀ {l : List (TV A)} {vs}, TsIs β l vs → vs.length = l.length
  | [], _, e => by subst e; rfl
  | _ :: _, _, ⟨v, r, _, h2, e⟩ => by subst e; simp [TsIs.len h2]

/-- How a result is read. -/
def resSem (a : Act) : ResultVar → Sem Value
  | .tmp t => pure (a.tmps.getD t undef)
  | .cell p t => do loadVar t (← asAddr (a.tmps.getD p undef))

theorem resV_run {c : Cfg A} {X : Nat → Prop} {W0 W : World} {β : Adr} {st : St A} {a : Act} (hr : Rel c X W0 β st a W) : ∀ {rs : List ResultVar} {l : List (Bool × List (SV A))}, resV c st rs = some l →
    ∃ vs, (rs.mapM (resSem a)).run c.P W = .ok vs W ∧ PsIs β l vs
  | [], l, h => by simp [resV] at h; subst h; exact ⟨[], by simp, rfl⟩
  | .tmp t :: r, l, h => by
    simp only [resV] at h
    split at h
    · rename_i g cs rest h1 h2
      simp at h; subst h
      obtain ⟨vs, e1, e2⟩ := resV_run hr h2
      obtain ⟨v, e3, e4⟩ := hr.t.tmps.nth h1
      refine ⟨v :: vs, ?_, v, vs, e4, e2, rfl⟩
      have e5 : a.tmps.getD t undef = v := by
        simp at e3
        rw [Array.getD_eq_getD_getElem?, e3]; rfl
      have e6 : (resSem a (.tmp t)).run c.P W = .ok v W := by simp [resSem, e5]
      simp only [List.mapM_cons, Sem.run_bind, Sem.run_pure, Result.andThen_ok, e6]
      rw [e1]; rfl
    · cases h
  | .cell p ty :: r, l, h => by
    simp only [resV] at h
    split at h
    · rename_i tv rest h1 h2
      split at h
      · rename_i i off h3
        split at h
        · rename_i blk h4
          split at h
          · rename_i g cs h5
            simp at h; subst h
            obtain ⟨vs, e1, e2⟩ := resV_run hr h2
            obtain ⟨v, e3, e4⟩ := hr.t.tmps.nth h1
            have e5 : a.tmps.getD p undef = v := by
              simp at e3
              rw [Array.getD_eq_getD_getElem?, e3]; rfl
            obtain ⟨b, hb, rfl⟩ := addrOf_is e4 h3
            obtain ⟨b', us, fz, g1, g2, g3, _⟩ := hr.m.mem' h4 hb
            have : b' = b := by rw [hb] at g1; exact (Option.some.inj g1).symm
            subst this
            obtain ⟨u, k1, k2⟩ := run_loadPart (P := c.P) (w := W) h5 g2 g3
            refine ⟨u :: vs, ?_, u, vs, k2, e2, rfl⟩
            have e6 : (resSem a (.cell p ty)).run c.P W = .ok u W := by simp [resSem, e5, asAddr, k1]
            simp only [List.mapM_cons, Sem.run_bind, Sem.run_pure, Result.andThen_ok, e6]
            rw [e1]; rfl
          · cases h
        · cases h
      · cases h
    · cases h

theorem results_run {c : Cfg A} {X : Nat → Prop} {W0 W : World} {β : Adr} {st : St A} {a : Act} {fn : Func} {l : List (Bool × List (SV A))} (hr : Rel c X W0 β st a W) (h : resV c st fn.results.toList = some l) :
    ∃ v, (results fn a.tmps).run c.P W = .ok v W ∧ (packV l).Is β v := by
  obtain ⟨vs, e1, e2⟩ := resV_run hr h
  have e3 : (fn.results.mapM (resSem a)).run c.P W = .ok vs.toArray W := by
    rw [Array.mapM_eq_mapM_toList, Sem.run_map, e1]
    rfl
  have e4 : results fn a.tmps = (do
      let vs ← fn.results.mapM (resSem a)
      pure (if h : vs.size = 1 then vs[0] else .tuple vs)) := by
    unfold results
    have : (fun x => match x with | ResultVar.tmp t => (pure (a.tmps.getD t undef) : Sem Value) | .cell p t => do loadVar t (← asAddr (a.tmps.getD p undef))) = resSem a := by
      funext x; cases x <;> rfl
    rw [← this]
    rfl
  rw [e4, Sem.run_bind]
  refine ⟨if h : vs.toArray.size = 1 then vs.toArray[0] else .tuple vs.toArray, ?_, ?_⟩
  · rw [e3]
    rfl
  · match l, vs, e2 with
    | [], _, e => obtain rfl := e; exact ⟨[], rfl, rfl⟩
    | [(g, cs)], _, ⟨v, r, h1, h2, e⟩ =>
      obtain rfl : r = [] := h2
      subst e
      exact h1
    | x :: y :: l, _, ⟨v, r, h1, ⟨u, r', h2, h3, e'⟩, e⟩ =>
      subst e' e
      have : ¬ ((v :: u :: r').toArray.size = 1) := by simp
      rw [dif_neg this]
      exact ⟨_, ⟨v, _, h1, ⟨u, r', h2, h3, rfl⟩, rfl⟩, rfl⟩

/-! ### Loops, by what holds between two rounds -/

def lowS (L : Nat) : SV A → Bool
  | .p i _ => Nat.blt i L
  | .s i _ _ _ => Nat.blt i L
  | .r i _ _ _ => Nat.blt i L
  | .y i => Nat.blt i L
  | .f _ cap => cap.all fun x => Nat.blt x.1 L
  | .gr _ i _ _ _ => Nat.blt i L
  | .ga i _ _ => Nat.blt i L
  | _ => true

def lowL (L : Nat) : List (SV A) → Bool
  | [] => true
  | s :: l => lowS L s && lowL L l

def lowP (L : Nat) : List (Bool × List (SV A)) → Bool
  | [] => true
  | x :: l => lowL L x.2 && lowP L l

def lowT (L : Nat) : TV A → Bool
  | .val _ l => lowL L l
  | .tup l => lowP L l
  | .any => true

def lowTs (L : Nat) : List (TV A) → Bool
  | [] => true
  | t :: l => lowT L t && lowTs L l

def lowM (L : Nat) : Mem A → Bool
  | [] => true
  | some b :: m => lowL L b.cells && lowM L m
  | none :: m => lowM L m

/-- Blocks from the memory's end on are not spoken of. -/
def lowSt (st : St A) : Bool := lowTs st.m.length st.t && lowM st.m.length st.m

def Adr.cut (β : Adr) (L : Nat) : Adr := ⟨fun i => if i < L then β i else none, β.kp, β.kn, fun i v => if i < L then β.gs i v else none⟩

theorem Adr.cut_gs {β : Adr} {L i v : Nat} (h : Nat.blt i L = true) : (β.cut L).gs i v = β.gs i v := by
  have : i < L := by simpa [Nat.blt_eq] using h
  show (if i < L then β.gs i v else none) = _
  rw [if_pos this]

theorem Adr.cut_at {β : Adr} {L i : Nat} (h : Nat.blt i L = true) : (β.cut L) i = β i := by
  have : i < L := by simpa [Nat.blt_eq] using h
  show (if i < L then β i else none) = _
  rw [if_pos this]

theorem capsIs.cut {β : Adr} {L : Nat} : ∀ {l : List (Nat × Nat)} {vs : List Value}, (l.all fun x => Nat.blt x.1 L) = true → capsIs β l vs → capsIs (β.cut L) l vs
  | [], _, _, h => h
  | (i, off) :: l, _, hl, ⟨b, r, h1, h2, e⟩ => by
    simp only [List.all_cons, Bool.and_eq_true] at hl
    exact ⟨b, r, by rw [Adr.cut_at hl.1]; exact h1, capsIs.cut hl.2 h2, e⟩

theorem SV.Is.cut {β : Adr} {L : Nat} {s : SV A} {vs : List Value} (hl : lowS L s = true) (h : s.Is β vs) : s.Is (β.cut L) vs := by
  cases s with
  | p i off => obtain ⟨b, h1, h2⟩ := h; exact ⟨b, by rw [Adr.cut_at hl]; exact h1, h2⟩
  | s i off len cap => obtain ⟨b, h1, h2⟩ := h; exact ⟨b, by rw [Adr.cut_at hl]; exact h1, h2⟩
  | r i off len z => obtain ⟨h0, b, h1, h2⟩ := h; exact ⟨h0, b, by rw [Adr.cut_at hl]; exact h1, h2⟩
  | y i => obtain ⟨b, h1, h2⟩ := h; exact ⟨b, by rw [Adr.cut_at hl]; exact h1, h2⟩
  | f g cap => obtain ⟨cs, h1, h2⟩ := h; exact ⟨cs, h1.cut hl, h2⟩
  | gr f i v n sz => show growsIs (β.cut L) f n sz vs ((β.cut L).gs i v); rw [Adr.cut_gs hl]; exact growsIs.same (fun _ _ h => h) h
  | ga i v off => show growsAt off vs ((β.cut L).gs i v); rw [Adr.cut_gs hl]; exact h
  | _ => exact h

theorem LIs.cut {β : Adr} {L : Nat} : ∀ {l : List (SV A)} {vs : List Value}, lowL L l = true → LIs β l vs → LIs (β.cut L) l vs
  | [], _, _, h => h
  | _ :: _, _, hl, ⟨x, y, h1, h2, e⟩ => by
    simp only [lowL, Bool.and_eq_true] at hl
    exact ⟨x, y, h1.cut hl.1, LIs.cut hl.2 h2, e⟩

theorem VIs.cut {β : Adr} {L : Nat} {g : Bool} {l : List (SV A)} {v : Value} (hl : lowL L l = true) (h : VIs β g l v) : VIs (β.cut L) g l v := by
  cases g with
  | true => obtain ⟨vs, h1, h2⟩ := h; exact ⟨vs, h1.cut hl, h2⟩
  | false => exact LIs.cut hl h

theorem PsIs.cut {β : Adr} {L : Nat} : ∀ {l : List (Bool × List (SV A))} {vs : List Value}, lowP L l = true → PsIs β l vs → PsIs (β.cut L) l vs
  | [], _, _, h => h
  | _ :: _, _, hl, ⟨v, r, h1, h2, e⟩ => by
    simp only [lowP, Bool.and_eq_true] at hl
    exact ⟨v, r, h1.cut hl.1, PsIs.cut hl.2 h2, e⟩

theorem TV.Is.cut {β : Adr} {L : Nat} {t : TV A} {v : Value} (hl : lowT L t = true) (h : t.Is β v) : t.Is (β.cut L) v := by
  cases t with
  | val g l => exact VIs.cut hl h
  | tup l => obtain ⟨vs, h1, h2⟩ := h; exact ⟨vs, h1.cut hl, h2⟩
  | any => trivial

theorem TsIs.cut {β : Adr} {L : Nat} : ∀ {l : List (TV A)} {vs : List Value}, lowTs L l = true → TsIs β l vs → TsIs (β.cut L) l vs
  | [], _, _, h => h
  | _ :: _, _, hl, ⟨v, r, h1, h2, e⟩ => by
    simp only [lowTs, Bool.and_eq_true] at hl
    exact ⟨v, r, h1.cut hl.1, TsIs.cut hl.2 h2, e⟩

omit [Atom A] in
theorem lowM_at {L : Nat} : ∀ {m : Mem A} {i : Nat} {b : Blk A}, lowM L m = true → nth m i = some (some b) → lowL L b.cells = true
  | some x :: m, 0, b, h, e => by
    simp only [lowM, Bool.and_eq_true] at h
    simp [nth] at e; subst e
    exact h.1
  | some x :: m, i + 1, b, h, e => by
    simp only [lowM, Bool.and_eq_true] at h
    exact lowM_at h.2 e
  | none :: m, 0, b, h, e => by simp [nth] at e
  | none :: m, i + 1, b, h, e => lowM_at (m := m) h e
  | [], i, b, h, e => by simp [nth] at e

theorem YAll.cut {X : Nat → Prop} {W0 : World} {β0 β : Adr} {L : Nat} (h0 : ∀ i, L ≤ i → β0 i = none) (hle : Adr.le β0 β) {W W1 : World} : ∀ {ss : List (Ys A)} {es es0 : Pds}, YAll X W0 β ss es W → YAll X W0 β0 ss es0 W1 → (ss.all fun s => lowTs L s.t) = true → YAll X W0 (β.cut L) ss es W
  | [], [], _, _, _, _ => trivial
  | s :: ss, e :: es, e0 :: es0, ⟨⟨l, rec, h1, h2, h3, h4, h5, h6, h7, h8⟩, k2, k3⟩, ⟨⟨l', _, g1, _⟩, _, g3⟩, hl => by
    simp only [List.all_cons, Bool.and_eq_true] at hl
    have lt : ∀ {i b}, β0 i = some b → Nat.blt i L = true := by
      intro i b hi
      rw [Nat.blt_eq]
      rcases Nat.lt_or_ge i L with h | h
      · exact h
      · rw [h0 i h] at hi; cases hi
    refine ⟨⟨l, rec, by rw [Adr.cut_at (lt g1)]; exact h1, h2, h3, h4, h5, h6, TsIs.cut hl.1 h7, h8⟩, fun s' hs' => ?_, YAll.cut h0 hle k3 g3 hl.2⟩
    obtain ⟨_, l2, _, j1, _⟩ := g3.has s' hs'
    rw [Adr.cut_at (lt g1), Adr.cut_at (lt j1)]
    exact k2 s' hs'
  | [], _ :: _, _, h, _, _ => h.elim
  | _ :: _, [], _, h, _, _ => h.elim
  | _ :: _, _ :: _, [], _, h, _ => h.elim

/-- A state behind a round, with what is not spoken of let go: new blocks too. -/
theorem Rel.trunc {c : Cfg A} {X : Nat → Prop} {W0 W W1 : World} {β0 β : Adr} {st s' : St A} {a : Act} {pd0 : Pds} (h : Rel c X W0 β st a W) (h0 : Top β0 s'.m) (hle : Adr.le β0 β) (hg : ∀ g i, c.gl g = some i → β0 i = some g) (hy0 : YAll X W0 β0 c.ys pd0 W1)
    (e1 : maskT s'.t st.t = s'.t) (e2 : maskM s'.m st.m = s'.m) (e3 : st.pd = s'.pd) (hlow : lowSt s' = true) (hlowY : (c.ys.all fun s => lowTs s'.m.length s.t) = true) : Adr.le β0 (β.cut s'.m.length) ∧ Rel c X W0 (β.cut s'.m.length) s' a W := by
  simp only [lowSt, Bool.and_eq_true] at hlow
  have hcut : ∀ {i b}, (β.cut s'.m.length) i = some b → i < s'.m.length ∧ β i = some b := by
    intro i b hi
    change (if i < s'.m.length then β i else none) = some b at hi
    split at hi
    · rename_i hlt; exact ⟨hlt, hi⟩
    · cases hi
  have hle' : Adr.le β0 (β.cut s'.m.length) := by
    refine ⟨fun i b hi => ?_, hle.kp, hle.kn, fun i v x hi => ?_⟩
    · have hlt : i < s'.m.length := by
        rcases Nat.lt_or_ge i s'.m.length with h | h
        · exact h
        · rw [(h0 i h).1] at hi; cases hi
      rw [Adr.cut_at (by simpa [Nat.blt_eq] using hlt)]
      exact hle.pl i b hi
    · have hlt : i < s'.m.length := by
        rcases Nat.lt_or_ge i s'.m.length with h | h
        · exact h
        · rw [(h0 i h).2] at hi; cases hi
      rw [Adr.cut_gs (by simpa [Nat.blt_eq] using hlt)]
      exact hle.gs i v x hi
  have hsub : MSub s'.m st.m := by rw [← e2]; exact maskM_sub
  have hm' := h.m.sub hsub
  refine ⟨hle', ⟨⟨?_⟩, ?_, ?_, ?_, ?_⟩⟩
  · refine TsIs.cut hlow.1 ?_
    rw [← e1]
    exact maskT_is h.t.tmps
  · have low : ∀ {i : Nat} {blk : Blk A}, nth s'.m i = some (some blk) → Nat.blt i s'.m.length = true := fun hi => by simpa [Nat.blt_eq] using nth_lt hi
    have vin : ∀ {i b}, vecIn (β.cut s'.m.length) s'.m i b → vecIn β s'.m i b := by
      rintro i b ⟨blk, v, n, l, cap, g1, g2, g3⟩
      rw [Adr.cut_gs (low g1)] at g3
      exact ⟨blk, v, n, l, cap, g1, g2, g3⟩
    refine ⟨fun i blk hi hnv => ?_, fun i j bi bj b li lj hi hj => hm'.inj i j bi bj b li lj (hcut hi).2 (hcut hj).2, fun i b hi => h.m.dom i b (hcut hi).2, h.m.ext, fun g i e => hle'.pl i g (hg g i e), h.m.old, h.m.nc, fun a v hk => ?_, fun i blk v n l hi hv => ?_,
      fun i b hv j => ⟨fun blk hj e => (hm'.sep i b (vin hv) j).1 blk hj (hcut e).2, fun hv' => (hm'.sep i b (vin hv) j).2 (vin hv')⟩⟩
    rotate_left 1
    · obtain ⟨k1, k2, k3⟩ := hm'.kn a v hk
      refine ⟨k1, k2, fun i hw => ?_⟩
      rcases hw with ⟨blk, w1, w2, w3, w4⟩ | ⟨blk, v1, n1, l1, cap1, w1, w2, w3, w4⟩
      · exact k3 i (.inl ⟨blk, w1, w2, w3, (hcut w4).2⟩)
      · rw [Adr.cut_gs (low w1)] at w3
        exact k3 i (.inr ⟨blk, v1, n1, l1, cap1, w1, w2, w3, w4⟩)
    · have g := hm'.vec i blk v n l hi hv
      refine ⟨by rw [Adr.cut_at (low hi)]; exact g.free, fun v' hv' => by rw [Adr.cut_gs (low hi)]; exact g.last v' hv', ?_, fun cap hc => g.nil cap (by rw [Adr.cut_gs (low hi)] at hc; exact hc)⟩
      obtain ⟨bo, cap, vs, sz, g1, g2, g3, g4⟩ := g.lies
      exact ⟨bo, cap, vs, sz, by rw [Adr.cut_gs (low hi)]; exact g1, g2, g3, g4⟩
    obtain ⟨b, vs, fz, h1, h2, h3, h4⟩ := hm'.mem i blk hi hnv
    exact ⟨b, vs, fz, by rw [Adr.cut_at (by simpa [Nat.blt_eq] using nth_lt hi)]; exact h1, h2.cut (lowM_at hlow.2 hi), h3, h4⟩
  · intro i hi
    refine ⟨?_, fun v => ?_⟩
    · show (if i < s'.m.length then β i else none) = none
      rw [if_neg (by omega)]
    · show (if i < s'.m.length then β.gs i v else none) = none
      rw [if_neg (by omega)]
  · have : ∀ {ds : List Deferred} {ok : Nat → Prop}, Defs ok β ds → Defs ok (β.cut s'.m.length) ds := by
      intro ds ok
      induction ds with
      | nil => exact fun _ => trivial
      | cons d ds ih => rintro ⟨⟨D, k1, k2, k3⟩, k4⟩; exact ⟨⟨D, k1, k2, k3⟩, ih k4⟩
    exact this h.d
  · rw [← e3]
    exact h.y.cut (fun i hi => (h0 i hi).1) hle hy0 hlowY

/-- The same program, the same outside memory, the same loops over functions. -/
structure Like (c c' : Cfg A) : Prop where
  P : c'.P = c.P
  gl : c'.gl = c.gl
  old : c'.old = c.old
  ys : c'.ys = c.ys

theorem MRel.like {c c' : Cfg A} (hP : c'.P = c.P) (hgl : c'.gl = c.gl) (hold : c'.old = c.old) {X : Nat → Prop} {W0 W : World} {β : Adr} {m : Mem A} (hm : MRel c X W0 β m W) : MRel c' X W0 β m W :=
  ⟨hm.mem, hm.inj, hm.dom, hm.ext, by rw [hgl]; exact hm.glob, by rw [hold]; exact hm.old, hm.nc, hm.kn, by rw [hP]; exact hm.vec, hm.sep⟩
theorem Rel.like {c c' : Cfg A} (h : Like c c') {X : Nat → Prop} {W0 W : World} {β : Adr} {st : St A} {a : Act} (hr : Rel c X W0 β st a W) : Rel c' X W0 β st a W :=
  ⟨hr.t, hr.m.like h.P h.gl h.old, hr.top, hr.d, by rw [h.ys]; exact hr.y⟩
omit [Atom A] in
theorem Like.symm {c c' : Cfg A} (h : Like c c') : Like c' c := ⟨h.P.symm, h.gl.symm, h.old.symm, h.ys.symm⟩
omit [Atom A] in
theorem Like.refl (c : Cfg A) : Like c c := ⟨rfl, rfl, rfl, rfl⟩

/-- One round: from s to s', left by e. -/
def Round (c : Cfg A) (x : Code) (s : St A) (e : Ex) (s' : St A) : Prop :=
  ∃ (c' : Cfg A) (fuel : Nat) (t : List (TV A)) (m : Mem A) (vc : List Prop), Like c c' ∧ CfgOK c' ∧ LoopsOK c' x ∧
    (exec c' fuel x ⟨s.t, s.m, 0, [], s.pd⟩).map (fun q => (q.1, maskT s'.t q.2.t, maskM s'.m q.2.m, q.2.pd, q.2.vc)) = some (e, t, m, s'.pd, vc) ∧ (∀ p ∈ vc, p) ∧ t = s'.t ∧ m = s'.m ∧ (lowSt s' && (c.ys.all fun z => lowTs s'.m.length z.t)) = true ∧ s'.m.length = s.m.length

theorem Round.sound {c : Cfg A} {x : Code} {s s' : St A} {e : Ex} (h : Round c x s e s') {r : Option Nat} {n : Nat} {X : Nat → Prop} {W0 W : World} {Q : Exit → Act → World → Prop} {β : Adr} {a : Act} (hrnd : RndOK r X W0) (hr : Rel c X W0 β s a W)
    (hQ : ∀ β' a' W', Adr.le β β' → Rel c X W0 β' s' a' W' → Q e.toExit a' W') : x.wpIn (Fr r) n c.P Q a W := by
  obtain ⟨c', fuel, t, m, vc, hlike, hc, hl, h1, h2, rfl, rfl, h3, h4⟩ := h
  simp only [Bool.and_eq_true] at h3
  cases hx : exec c' fuel x ⟨s.t, s.m, 0, [], s.pd⟩ with
  | none => rw [hx] at h1; cases h1
  | some q =>
    obtain ⟨e', st'⟩ := q
    rw [hx] at h1
    simp only [Option.map_some, Option.some.injEq, Prod.mk.injEq] at h1
    obtain ⟨rfl, k1, k2, kp, rfl⟩ := h1
    have hr' := hr.like hlike
    rw [← hlike.P]
    refine exec_sound hc x hl r n X W0 Q _ e' st' β a W hrnd hx h2 ⟨hr'.t, hr'.m, hr'.top, hr'.d, hr'.y⟩ (fun β' a' W' hle hr2 => ?_)
    obtain ⟨k3, k4⟩ := hr2.trunc (s' := s') (β0 := β) (fun i hi => hr.top i (by omega)) hle hr'.m.glob hr'.y k1 k2 kp h3.1 (by rw [hlike.ys]; exact h3.2)
    exact hQ _ a' W' k3 (k4.like hlike.symm)

/-- A loop: N rounds that go on, and one that leaves. -/
theorem loopAt {c : Cfg A} {x : Code} {inv : Nat → St A} {N : Nat} {e : Ex} {post : St A} (he : e ≠ .normal) (step : ∀ k, k < N → Round c x (inv k) .normal (inv (k + 1)))
    (last : Round c x (inv N) e post) : SoundAt c (.loop x) (inv 0) e post := by
  intro r n X W0 Q β a W hrnd hr hQ
  refine wpIn_loop_rounds (N + 1) ?_
  have key : ∀ d k, k ≤ N → N - k = d → ∀ β' a' W', Adr.le β β' → Rel c X W0 β' (inv k) a' W' → Code.roundsIn (Fr r) n c.P x Q (d + 1) a' W' := by
    intro d
    induction d with
    | zero =>
      intro k hk hd β' a' W' hle hr'
      have : k = N := by omega
      subst this
      rw [roundsIn_succ]
      refine last.sound hrnd hr' (fun β'' a'' W'' hle' hr'' => ?_)
      have := hQ β'' a'' W'' (Adr.le_trans hle hle') hr''
      cases e with
      | normal => exact absurd rfl he
      | ret => exact this
      | exit id => exact this
    | succ d ih =>
      intro k hk hd β' a' W' hle hr'
      rw [roundsIn_succ]
      exact (step k (by omega)).sound hrnd hr' (fun β'' a'' W'' hle' hr'' => ih (k + 1) (by omega) (by omega) β'' a'' W'' (Adr.le_trans hle hle') hr'')
  exact key N 0 (Nat.zero_le _) rfl β a W (Adr.le_refl β) hr

/-! ### A function's contract -/

section
variable {pl : Nat → Option Nat} {kq kq' : Nat → Prop} {kn : Addr → Value → Prop} {gs : Nat → Nat → Option (Option Nat × Nat)}

theorem capsIs.kp : ∀ {l : List (Nat × Nat)} {vs : List Value}, capsIs ⟨pl, kq, kn, gs⟩ l vs → capsIs ⟨pl, kq', kn, gs⟩ l vs
  | [], _, h => h
  | (_, _) :: _, _, ⟨b, r, h1, h2, e⟩ => ⟨b, r, h1, capsIs.kp h2, e⟩

theorem SV.Is.kp {s : SV A} {vs : List Value} (h : s.Is ⟨pl, kq, kn, gs⟩ vs) : s.Is ⟨pl, kq', kn, gs⟩ vs := by
  cases s with
  | f g cap => obtain ⟨cs, h1, h2⟩ := h; exact ⟨cs, h1.kp, h2⟩
  | _ => exact h

theorem LIs.kp : ∀ {l : List (SV A)} {vs : List Value}, LIs ⟨pl, kq, kn, gs⟩ l vs → LIs ⟨pl, kq', kn, gs⟩ l vs
  | [], _, h => h
  | _ :: _, _, ⟨x, y, h1, h2, e⟩ => ⟨x, y, h1.kp, LIs.kp h2, e⟩

theorem VIs.kp {g : Bool} {l : List (SV A)} {v : Value} (h : VIs ⟨pl, kq, kn, gs⟩ g l v) : VIs ⟨pl, kq', kn, gs⟩ g l v := by
  cases g with
  | true => obtain ⟨vs, h1, h2⟩ := h; exact ⟨vs, h1.kp, h2⟩
  | false => exact LIs.kp h

theorem PsIs.kp : ∀ {l : List (Bool × List (SV A))} {vs : List Value}, PsIs ⟨pl, kq, kn, gs⟩ l vs → PsIs ⟨pl, kq', kn, gs⟩ l vs
  | [], _, h => h
  | _ :: _, _, ⟨v, r, h1, h2, e⟩ => ⟨v, r, h1.kp, PsIs.kp h2, e⟩

theorem TV.Is.kp {t : TV A} {v : Value} (h : t.Is ⟨pl, kq, kn, gs⟩ v) : t.Is ⟨pl, kq', kn, gs⟩ v := by
  cases t with
  | val g l => exact VIs.kp h
  | tup l => obtain ⟨vs, h1, h2⟩ := h; exact ⟨vs, h1.kp, h2⟩
  | any => trivial

theorem TsIs.kp : ∀ {l : List (TV A)} {vs : List Value}, TsIs ⟨pl, kq, kn, gs⟩ l vs → TsIs ⟨pl, kq', kn, gs⟩ l vs
  | [], _, h => h
  | _ :: _, _, ⟨v, r, h1, h2, e⟩ => ⟨v, r, h1.kp, TsIs.kp h2, e⟩

theorem Defs.drop {ok : Nat → Prop} {D : Nat} : ∀ {ds : List Deferred}, Defs ok ⟨pl, kq, kn, gs⟩ ds → (∀ d ∈ ds, d ≠ { target := .collected D, args := #[] }) → Defs ok ⟨pl, fun k => kq k ∧ k ≠ D, kn, gs⟩ ds
  | [], _, _ => trivial
  | d :: ds, ⟨⟨D', h1, h2, h3, h4⟩, h5⟩, hne => by
    refine ⟨⟨D', h1, ⟨h2, fun e => ?_⟩, h3, h4⟩, Defs.drop h5 (fun d' hd => hne d' (by simp [hd]))⟩
    subst e
    exact hne d (by simp) h1
end

theorem VecAt.kp {P : Program} {own : Nat → Prop} {pl : Nat → Option Nat} {kq kq' : Nat → Prop} {kn : Addr → Value → Prop} {gs : Nat → Nat → Option (Option Nat × Nat)} {W : World} {i v n : Nat} {l : List (SV A)} {ty : TypeId} (h : VecAt P own ⟨pl, kq, kn, gs⟩ W i v n l ty) : VecAt P own ⟨pl, kq', kn, gs⟩ W i v n l ty := by
  refine ⟨h.free, h.last, ?_, h.nil⟩
  obtain ⟨bo, cap, vs, sz, h1, h2, h3, h4⟩ := h.lies
  exact ⟨bo, cap, vs, sz, h1, h2, h3, h4⟩

/-- The put-off calls of a loop are taken over. -/
theorem MRel.take {c : Cfg A} {X : Nat → Prop} {W0 W : World} {β : Adr} {m : Mem A} (h : MRel c X W0 β m W) {D : Nat} (hk : β.kp D) :
    MRel c X W0 ⟨β.pl, fun k => β.kp k ∧ k ≠ D, β.kn, β.gs⟩ m (W.putObj D (.deferred none)) := by
  obtain ⟨hW, hD⟩ := h.nc D hk
  have oth : ∀ k, k ≠ D → (W.putObj D (.deferred none)).heap[k]? = W.heap[k]? := fun k hk => World.putObj_heap_other hk
  have cells : ∀ {k : Nat} {cs t fz}, W.heap[k]? = some (.cells cs t fz) → (W.putObj D (.deferred none)).heap[k]? = W.heap[k]? := fun {k cs t fz} hck => oth k (fun e => by subst e; rw [hck] at hW; cases hW)
  refine ⟨fun i blk hi hnv => ?_, h.inj, fun i b hi => by rw [World.putObj_size]; exact h.dom i b hi, ?_, h.glob, h.old, fun k hk' => ?_, fun a v hkn => ?_, fun i blk v n l hi hv => ?_, h.sep⟩
  rotate_left 3
  · obtain ⟨k1, k2, k3⟩ := h.kn a v hkn
    obtain ⟨cs, t, fz, k4⟩ := cell?_heap k1
    exact ⟨cell?_same k1 (cells k4), k2, k3⟩
  · have g := (h.vec i blk v n l hi hv).kept (own' := fun b => W0.heap.size ≤ b ∨ X b) (W' := W.putObj D (.deferred none)) (fun _ _ _ h => h) (fun b cap hb => by
      obtain ⟨cs, t, k4, _⟩ := vecIn.block h ⟨blk, v, n, l, cap, hi, hv, hb⟩
      exact cells k4)
    exact g.kp
  · obtain ⟨b, vs, fz, h1, h2, h3, h4⟩ := h.mem i blk hi hnv
    refine ⟨b, vs, fz, h1, h2.kp, ?_, h4⟩
    rw [oth b (fun e => by subst e; rw [h3] at hW; cases hW)]
    exact h3
  · refine ⟨h.ext.os, h.ext.tape, h.ext.output, by rw [World.putObj_size]; exact h.ext.size, fun k hk' hx => ?_⟩
    rw [oth k (fun e => by subst e; rcases hD with hD | hD; (· omega); (· exact hx hD))]
    exact h.ext.block k hk' hx
  · rw [oth k hk'.2]
    exact h.nc k hk'.1

theorem YAll.kp {X : Nat → Prop} {W0 : World} {pl : Nat → Option Nat} {kq kq' : Nat → Prop} {kn : Addr → Value → Prop} {gs : Nat → Nat → Option (Option Nat × Nat)} {W : World} : ∀ {ss : List (Ys A)} {es : Pds}, YAll X W0 ⟨pl, kq, kn, gs⟩ ss es W → YAll X W0 ⟨pl, kq', kn, gs⟩ ss es W
  | [], [], _ => trivial
  | _ :: _, _ :: _, ⟨⟨l, rec, h1, h2, h3, h4, h5, h6, h7, h8⟩, k2, k3⟩ => ⟨⟨l, rec, h1, h2, h3, h4, h5, h6, h7.kp, h8⟩, k2, YAll.kp k3⟩
  | [], _ :: _, h => h.elim
  | _ :: _, [], h => h.elim

/-- A frame leaves: what its loops over functions have put off is nothing. -/
theorem leaves_run {c : Cfg A} {X : Nat → Prop} {W0 : World} {fn : Func} {l : List (Bool × List (SV A))} {st : St A} {tmps : Array Value} {R : Ending → World → Prop} (h : resV c st fn.results.toList = some l) :
    ∀ (ds : List Deferred) (β : Adr) (W : World), Rel c X W0 β st { tmps := tmps, defers := ds } W → (∀ β' v W', β'.pl = β.pl ∧ β'.kn = β.kn ∧ β'.gs = β.gs → (packV l).Is β' v → MRel c X W0 β' st.m W' → YAll X W0 β' c.ys st.pd W' → R (.returned v) W') →
      LeavesInM Fence.wide 100 c.P fn tmps R ds .returning W
  | [], β, W, hr, hR => by
    obtain ⟨v, k1, k2⟩ := results_run hr h
    exact ⟨v, k1, hR β v W ⟨rfl, rfl, rfl⟩ k2 hr.m hr.y⟩
  | d :: ds, β, W, hr, hR => by
    obtain ⟨⟨D, hd, hk, hD, hne⟩, hds⟩ := hr.d
    obtain ⟨hW, _⟩ := hr.m.nc D hk
    refine ⟨by simp, .inl ⟨D, W.putObj D (.deferred none), by rw [hd], run_takeDeferred hW, ?_⟩⟩
    refine leaves_run h ds ⟨β.pl, fun k => β.kp k ∧ k ≠ D, β.kn, β.gs⟩ _ ⟨⟨hr.t.tmps.kp⟩, hr.m.take hk, hr.top, Defs.drop hds (fun d' hd' e => hne d' hd' (e.trans hd.symm)), ?_⟩ hR
    refine (hr.y.kept' (Adr.le_refl β) (fun s hs k r hk' hr' => ?_)).kp
    rw [World.putObj_heap_other]
    · exact hr'
    · rintro rfl
      rw [hW] at hr'
      cases hr'

/-- What a run on shadows says of a call. -/
theorem runP_sound {c : Cfg A} (hc : CfgOK c) {fuel : Nat} {f : FuncId} {fn : Func} (hf : c.P.funcs[f]? = some fn) (hl : ∀ body, fn.body = some body → LoopsOK c body) {args : List (TV A)} {m m' : Mem A} {pd pd' : Pds} {res : TV A} {vc : List Prop}
    (h : runP c fuel fn args m pd = some (res, m', pd', vc)) (hvc : ∀ p ∈ vc, p) {X : Nat → Prop} {W0 W : World} {β : Adr} {vs : List Value} (hm : MRel c X W0 β m W) (ht : Top β m) (hy : YAll X W0 β c.ys pd W) (ha : TsIs β args vs) :
    Calls c.P f vs.toArray W (fun e W' => ∃ v, e = .returned v ∧ ∃ β', Adr.le β β' ∧ res.Is β' v ∧ MRel c X W0 β' m' W' ∧ Top β' m' ∧ YAll X W0 β' c.ys pd' W' ∧ NX c β W W') := by
  -- as a run of its own: its start is W; what it may write is what the caller's shadows own
  obtain ⟨β0, hβ0⟩ : ∃ β0 : Adr, β0 = ⟨β.pl, fun _ => False, β.kn, β.gs⟩ := ⟨_, rfl⟩
  have hM0 : MRel c X W0 β0 m W := by
    rw [hβ0]
    exact ⟨fun i blk hi hnv => by obtain ⟨b, us, fz, h1, h2, h3, h4⟩ := hm.mem i blk hi hnv; exact ⟨b, us, fz, h1, h2.kp, h3, h4⟩, hm.inj, hm.dom, hm.ext, hm.glob, hm.old, fun k hk => hk.elim, hm.kn, fun i blk v n l hi hv => (hm.vec i blk v n l hi hv).kp, hm.sep⟩
  have hT0 : Top β0 m := by rw [hβ0]; exact ht
  have hY0 : YAll X W0 β0 c.ys pd W := by rw [hβ0]; exact hy.kp
  have hA0 : TsIs β0 args vs := by rw [hβ0]; exact ha.kp
  have hkp0 : ∀ k, ¬ β0.kp k := by rw [hβ0]; exact fun _ h => h
  have hpl0 : ∀ i, β0 i = β i := by rw [hβ0]; exact fun _ => rfl
  -- a state to be rebased
  have R0 : ∀ (tmps : Array Value) (st : St A), st.m = m → st.pd = pd → TsIs β0 st.t tmps.toList → Rel c X W0 β0 st { tmps := tmps, defers := [] } W :=
    fun tmps st h1 h2 h3 => ⟨⟨h3⟩, by rw [h1]; exact hM0, by rw [h1]; exact hT0, trivial, by rw [h2]; exact hY0⟩
  unfold runP at h
  split at h
  · rename_i body hb
    refine (callsIn_wide (n := 100)).1 (callsIn_of_wp_marks (F := Fence.wide) hf hb trivial ?_)
    have key : ∀ (e : Ex) (st : St A) (l : List (Bool × List (SV A))), (∀ id, e ≠ .exit id) → exec c fuel body ⟨args ++ List.replicate (fn.ntmps - args.length) undefT, m, 0, [], pd⟩ = some (e, st) → resV c st fn.results.toList = some l →
        res = packV l → m' = st.m → pd' = st.pd → vc = st.vc →
        body.wpIn Fence.wide 100 c.P (bodyPostM Fence.wide 100 c.P fn fun e W' => ∃ v, e = .returned v ∧ ∃ β', Adr.le β β' ∧ res.Is β' v ∧ MRel c X W0 β' m' W' ∧ Top β' m' ∧ YAll X W0 β' c.ys pd' W' ∧ NX c β W W') { tmps := vs.toArray ++ Array.replicate (fn.ntmps - vs.toArray.size) undef, defers := [] } W := by
      intro e st l hne hex hres h1 h2 h4 h3
      subst h1 h2 h3 h4
      have hA : TsIs β0 (args ++ List.replicate (fn.ntmps - args.length) undefT) (vs.toArray ++ Array.replicate (fn.ntmps - vs.toArray.size) undef).toList := by
        have := hA0.append (TsIs.undefs (A := A) β0 (fn.ntmps - args.length))
        simpa [ha.len] using this
      have R0' := R0 _ ⟨args ++ List.replicate (fn.ntmps - args.length) undefT, m, 0, [], pd⟩ rfl rfl hA
      refine exec_sound hc body (hl body hb) none 100 (own c β0 m) W _ _ e st β0 _ W (RndOK.none _ _) hex hvc R0'.rebase (fun β' a' W' hle hr => ?_)
      obtain ⟨tmps, ds⟩ := a'
      have post := leaves_run (R := fun e W' => ∃ v, e = .returned v ∧ ∃ β', Adr.le β β' ∧ (packV l).Is β' v ∧ MRel c X W0 β' st.m W' ∧ Top β' st.m ∧ YAll X W0 β' c.ys st.pd W' ∧ NX c β W W') hres ds β' W' hr (fun β'' v W'' hpl hv hm'' hy'' => by
        -- back: what the caller's frame has put off lies as it lay
        have hle0 : Adr.le β0 β'' := ⟨fun i b hi => by show β''.pl i = some b; rw [hpl.1]; exact hle.pl i b hi, fun k hk => (hkp0 k hk).elim, fun a v h => by rw [hpl.2.1]; exact hle.kn a v h, fun i v x h => by rw [hpl.2.2]; exact hle.gs i v x h⟩
        have hT'' : Top β'' st.m := fun i hi => ⟨by show β''.pl i = none; rw [hpl.1]; exact (hr.top i hi).1, fun v => by rw [hpl.2.2]; exact (hr.top i hi).2 v⟩
        have R1 : Rel c (own c β0 m) W β'' ⟨[], st.m, 0, [], st.pd⟩ { tmps := #[], defers := [] } W'' := ⟨⟨rfl⟩, hm'', hT'', trivial, hy''⟩
        obtain ⟨R2, nx⟩ := Rel.unbase (st := ⟨args ++ List.replicate (fn.ntmps - args.length) undefT, m, 0, [], pd⟩) R0' R1 hle0
        have hnx : NX c β W W'' := fun k o hk ho hs => nx k o hk ho (fun s hs' => by rw [hpl0]; exact hs s hs')
        refine ⟨v, rfl, ⟨β''.pl, β.kp, β''.kn, β''.gs⟩, ⟨fun i b hi => ?_, fun k hk => hk, fun a v hk => hle0.kn a v (by rw [hβ0]; exact hk), fun i v x hx => hle0.gs i v x (by rw [hβ0]; exact hx)⟩, TV.Is.kp hv, ?_, fun i hi => ?_, (by exact R2.y : YAll X W0 β'' c.ys st.pd W'').kp, hnx⟩
        · show β''.pl i = some b
          exact hle0.pl i b (by rw [hpl0]; exact hi)
        · have hm2 := R2.m
          refine ⟨fun i blk hi hnv => ?_, hm2.inj, hm2.dom, hm2.ext, hm2.glob, hm2.old, fun k hk => ?_, hm2.kn, fun i blk v n l hi hv => (hm2.vec i blk v n l hi hv).kp, hm2.sep⟩
          · obtain ⟨b, us, fz, h1, h2, h3, h4⟩ := hm2.mem i blk hi hnv
            exact ⟨b, us, fz, h1, h2.kp, h3, h4⟩
          · obtain ⟨h1, h2⟩ := hm.nc k hk
            refine ⟨hnx k _ h1 rfl (fun s hs e => ?_), h2⟩
            obtain ⟨_, l', _, k1, k2, _⟩ := hy.has s hs
            have : l' = k := Option.some.inj (k1.symm.trans e)
            subst this
            rw [h1] at k2
            cases k2
        · exact hT'' i hi)
      cases e with
      | normal => exact post
      | ret => exact post
      | exit id => exact absurd rfl (hne id)
    split at h
    · cases h
    · rename_i e st hne hex
      split at h
      · rename_i l hl'
        simp at h
        obtain ⟨h1, h2, h3, h4⟩ := h
        refine key e st l (fun id he => ?_) hex hl' h1.symm h2.symm h3.symm h4.symm
        subst he
        exact hne id rfl
      · cases h
    · cases h
  · cases h

/-- The same where no loop over a function is under way. -/
theorem run_sound {c : Cfg A} (hc : CfgOK c) (hys : c.ys = []) {fuel : Nat} {f : FuncId} {fn : Func} (hf : c.P.funcs[f]? = some fn) (hl : ∀ body, fn.body = some body → LoopsOK c body) {args : List (TV A)} {m m' : Mem A} {res : TV A} {vc : List Prop}
    (h : run c fuel fn args m = some (res, m', vc)) (hvc : ∀ p ∈ vc, p) {X : Nat → Prop} {W0 W : World} {β : Adr} {vs : List Value} (hm : MRel c X W0 β m W) (ht : Top β m) (ha : TsIs β args vs) :
    Calls c.P f vs.toArray W (fun e W' => ∃ v, e = .returned v ∧ ∃ β', Adr.le β β' ∧ res.Is β' v ∧ MRel c X W0 β' m' W' ∧ Top β' m' ∧ NC W W') := by
  unfold run at h
  split at h
  · rename_i v m2 pd' vc2 hr
    simp at h
    obtain ⟨rfl, rfl, rfl⟩ := h
    refine (runP_sound hc hf hl hr hvc hm ht (by rw [hys]; trivial) ha).mono ?_
    rintro e W' ⟨v, rfl, β', k1, k2, k3, k4, _, k6⟩
    exact ⟨v, rfl, β', k1, k2, k3, k4, fun k o hk ho => k6 k o hk ho (fun s hs => by rw [hys] at hs; cases hs)⟩
  · cases h
end
end Go.Sh

/- Contracts of functions that only compute: what they are, how a run on shadows gives one, how they serve in the next run. -/
namespace Go.Sh
open Go.RowKit

/-- What stands for many cells. -/
class Big (B : Type) where
  cells : B → List Value
  size : B → Nat
  len : ∀ b, (cells b).length = size b
  one : ∀ b, ∀ v ∈ cells b, v.oneCell' = true
  /-- as words of 64 bits -/
  words : B → Option (List UInt64)
  words_ok : ∀ {b l}, words b = some l → cells b = l.map fun x => .int .u64 x.toNat
  /-- words as one of the kind of another one -/
  like : B → List UInt64 → Option B
  like_ok : ∀ {a l b}, like a l = some b → cells b = l.map fun x => .int .u64 x.toNat
  /-- cell j of the package's variable g -/
  tab : Nat → Nat → UInt32 := fun _ _ => 0

/-- Numbers of a kind, carries, and whatever else. -/
inductive At (B : Type) where
  | u64 (x : UInt64)
  | u32 (x : UInt32)
  | u8 (x : UInt8)
  | cy (x : Bool)
  | big (x : B)
  | w64 (n : Nat) (f : Nat → UInt64)
  | w32 (n : Nat) (f : Nat → UInt32)
  | w8 (n : Nat) (f : Nat → UInt8)
  | z8 (n : Nat) (f : Nat → UInt8)
  | num (k : IntKind) (z : Int)
  | bo (x : Bool)

section
variable {B : Type} [Big B]

def At.cells : At B → List Value
  | .u64 x => [.int .u64 x.toNat]
  | .u32 x => [.int .u32 x.toNat]
  | .u8 x => [.int .u8 x.toNat]
  | .cy x => [.int .u64 (cond x 1 0)]
  | .big x => Big.cells x
  | .w64 n f => (List.range n).map fun i => .int .u64 (f i).toNat
  | .w32 n f => (List.range n).map fun i => .int .u32 (f i).toNat
  | .w8 n f => (List.range n).map fun i => .int .u8 (f i).toNat
  | .z8 n f => (List.range n).map fun i => .int .u8 (f i).toNat
  | .num k z => [.int k z]
  | .bo x => [.bool x]

def At.size : At B → Nat
  | .big x => Big.size x
  | .w64 n _ => n
  | .w32 n _ => n
  | .w8 n _ => n
  | .z8 n _ => n
  | _ => 1

def At.int : At B → Option (IntKind × Int)
  | .u64 x => some (.u64, x.toNat)
  | .u32 x => some (.u32, x.toNat)
  | .u8 x => some (.u8, x.toNat)
  | .cy x => some (.u64, cond x 1 0)
  | .num k z => some (k, z)
  | _ => none

def At.wrap : IntKind → Int → Option (At B)
  | .u64, z => some (.u64 (UInt64.ofNat (z % 18446744073709551616).toNat))
  | .u32, z => some (.u32 (UInt32.ofNat (z % 4294967296).toNat))
  | .u8, z => some (.u8 (UInt8.ofNat (z % 256).toNat))
  | _, _ => none

def At.shr : At B → Nat → Option (At B)
  | .u64 x, m => some (.u64 (UInt64.ofNat (x.toNat / 2 ^ m)))
  | .u32 x, m => some (.u32 (UInt32.ofNat (x.toNat / 2 ^ m)))
  | .u8 x, m => some (.u8 (UInt8.ofNat (x.toNat / 2 ^ m)))
  | _, _ => none

def At.parts : At B → Option (List (At B))
  | .w64 n f => some ((List.range n).map fun i => .u64 (f i))
  | .w32 n f => some ((List.range n).map fun i => .u32 (f i))
  | .w8 n f => some ((List.range n).map fun i => .u8 (f i))
  | .big x => (match Big.words x with | some l => some (l.map .u64) | none => none)
  | _ => none

def list64 : List (At B) → Option (List UInt64)
  | [] => some []
  | .u64 x :: l => match list64 l with | some r => some (x :: r) | none => none
  | .cy x :: l => match list64 l with | some r => some (cond x 1 0 :: r) | none => none
  | _ => none
def list32 : List (At B) → Option (List UInt32)
  | [] => some []
  | .u32 x :: l => match list32 l with | some r => some (x :: r) | none => none
  | _ => none
def list8 : List (At B) → Option (List UInt8)
  | [] => some []
  | .u8 x :: l => match list8 l with | some r => some (x :: r) | none => none
  | _ => none

/-- The i-th of a list; d beyond. -/
def pickN {α : Type} (d : α) : List α → Nat → α
  | [], _ => d
  | x :: _, 0 => x
  | _ :: l, i + 1 => pickN d l i

def At.pack (l : List (At B)) : Option (At B) :=
  match l with
  | .u8 _ :: _ => match list8 l with | some r => some (.w8 r.length (pickN 0 r)) | none => none
  | .u32 _ :: _ => match list32 l with | some r => some (.w32 r.length (pickN 0 r)) | none => none
  | _ => match list64 l with | some r => some (.w64 r.length (pickN 0 r)) | none => none

def At.get : At B → Nat → Option (At B)
  | .w64 _ f, i => some (.u64 (f i))
  | .w32 _ f, i => some (.u32 (f i))
  | .w8 _ f, i => some (.u8 (f i))
  | .z8 _ f, i => some (.u8 (f i))
  | .big x, i => (match Big.words x with | some l => some (.u64 (pickN 0 l i)) | none => none)
  | _, _ => none

def At.like : At B → At B → Option (At B)
  | .big a, .w64 n f => (match Big.like a ((List.range n).map f) with | some b => some (.big b) | none => none)
  | .w64 _ _, .big x => (match Big.words x with | some l => some (.w64 l.length (pickN 0 l)) | none => none)
  | _, _ => none

/-- A row whose first k cells are others. -/
def At.splice : At B → (Nat → At B) → Nat → Option (At B × Prop)
  | .w8 n f, g, k => some (.w8 n (fun j => match Nat.blt j k with | true => (match g j with | .u8 x => x | _ => 0) | false => f j), ∀ j, j < k → ∃ x, g j = .u8 x)
  | _, _, _ => none

/-- So many of one. -/
def At.many : At B → Nat → Option (At B)
  | .u8 x, n => some (.z8 n (fun _ => x))
  | _, _ => none
def At.wide : At B → Bool
  | .z8 _ _ => true
  | _ => false
/-- A row with one place written. -/
def upd {α : Type} (f : Nat → α) (i : Nat) (x : α) : Nat → α := fun j => if j = i then x else f j

def At.set : At B → Nat → At B → Option (At B)
  | .w64 n f, i, .u64 x => some (.w64 n (upd f i x))
  | .w64 n f, i, .cy x => some (.w64 n (upd f i (cond x 1 0)))
  | .w32 n f, i, .u32 x => some (.w32 n (upd f i x))
  | .w8 n f, i, .u8 x => some (.w8 n (upd f i x))
  | .z8 n f, i, .u8 x => some (.z8 n (upd f i x))
  | .big z, i, .u64 x => (match Big.words z with | some l => some (.w64 l.length (upd (pickN 0 l) i x)) | none => none)
  | .big z, i, .cy x => (match Big.words z with | some l => some (.w64 l.length (upd (pickN 0 l) i (cond x 1 0))) | none => none)
  | _, _, _ => none

omit [Big B] in
theorem pickN_at {α : Type} (d : α) : ∀ (l : List α) (i : Nat), i < l.length → l[i]? = some (pickN d l i)
  | x :: _, 0, _ => rfl
  | x :: l, i + 1, h => by simpa [pickN] using pickN_at d l i (by simpa using h)
  | [], _, h => by simp at h

omit [Big B] in
theorem pickN_range {α β : Type} (d : α) (g : α → β) : ∀ l : List α, (List.range l.length).map (fun i => g (pickN d l i)) = l.map g := by
  intro l
  apply List.ext_getElem?
  intro i
  simp only [List.getElem?_map]
  have key := pickN_at d
  rcases Nat.lt_or_ge i l.length with h | h
  · rw [key l i h]; simp [h]
  · simp [h]

theorem list64_cells : ∀ {l : List (At B)} {r : List UInt64}, list64 l = some r → (l.map At.cells).flatten = r.map fun x => Value.int .u64 x.toNat
  | [], r, h => by simp [list64] at h; subst h; rfl
  | .u64 x :: l, r, h => by
    simp only [list64] at h
    split at h
    · rename_i r' hr
      simp at h; subst h
      simp [At.cells, list64_cells hr]
    · cases h
  | .cy x :: l, r, h => by
    simp only [list64] at h
    split at h
    · rename_i r' hr
      simp at h; subst h
      simp only [List.map_cons, List.flatten_cons, list64_cells hr, At.cells]
      cases x <;> rfl
    · cases h
  | .u32 _ :: _, _, h => by simp [list64] at h
  | .u8 _ :: _, _, h => by simp [list64] at h
  | .big _ :: _, _, h => by simp [list64] at h
  | .w64 _ _ :: _, _, h => by simp [list64] at h
  | .w32 _ _ :: _, _, h => by simp [list64] at h
  | .w8 _ _ :: _, _, h => by simp [list64] at h
  | .num _ _ :: _, _, h => by simp [list64] at h
  | .bo _ :: _, _, h => by simp [list64] at h

theorem list32_cells : ∀ {l : List (At B)} {r : List UInt32}, list32 l = some r → (l.map At.cells).flatten = r.map fun x => Value.int .u32 x.toNat
  | [], r, h => by simp [list32] at h; subst h; rfl
  | .u32 x :: l, r, h => by
    simp only [list32] at h
    split at h
    · rename_i r' hr
      simp at h; subst h
      simp [At.cells, list32_cells hr]
    · cases h
  | .u64 _ :: _, _, h => by simp [list32] at h
  | .cy _ :: _, _, h => by simp [list32] at h
  | .u8 _ :: _, _, h => by simp [list32] at h
  | .big _ :: _, _, h => by simp [list32] at h
  | .w64 _ _ :: _, _, h => by simp [list32] at h
  | .w32 _ _ :: _, _, h => by simp [list32] at h
  | .w8 _ _ :: _, _, h => by simp [list32] at h
  | .num _ _ :: _, _, h => by simp [list32] at h
  | .bo _ :: _, _, h => by simp [list32] at h

theorem list8_cells : ∀ {l : List (At B)} {r : List UInt8}, list8 l = some r → (l.map At.cells).flatten = r.map fun x => Value.int .u8 x.toNat
  | [], r, h => by simp [list8] at h; subst h; rfl
  | .u8 x :: l, r, h => by
    simp only [list8] at h
    split at h
    · rename_i r' hr
      simp at h; subst h
      simp [At.cells, list8_cells hr]
    · cases h
  | .u64 _ :: _, _, h => by simp [list8] at h
  | .cy _ :: _, _, h => by simp [list8] at h
  | .u32 _ :: _, _, h => by simp [list8] at h
  | .big _ :: _, _, h => by simp [list8] at h
  | .w64 _ _ :: _, _, h => by simp [list8] at h
  | .w32 _ _ :: _, _, h => by simp [list8] at h
  | .w8 _ _ :: _, _, h => by simp [list8] at h
  | .num _ _ :: _, _, h => by simp [list8] at h
  | .bo _ :: _, _, h => by simp [list8] at h

theorem flat_single {α β : Type} (f : α → List β) (g : α → β) (h : ∀ x, f x = [g x]) : ∀ l : List α, (l.map f).flatten = l.map g
  | [] => rfl
  | x :: l => by simp [h x, flat_single f g h l]

theorem row_set {α : Type} (g : α → Value) (n : Nat) (f : Nat → α) (i : Nat) (x : α) : (List.range n).map (fun j => g (upd f i x j)) = ((List.range n).map fun j => g (f j)).set i (g x) := by
  apply List.ext_getElem?
  intro j
  rw [List.getElem?_set]
  simp only [List.getElem?_map]
  by_cases hj : j < n
  · rw [List.getElem?_range hj]
    by_cases e : i = j
    · subst e; simp [upd, hj]
    · rw [if_neg e]
      have : ¬ j = i := fun h => e h.symm
      simp [upd, this]
  · have h0 : (List.range n)[j]? = none := by simp; omega
    rw [h0]
    simp
    intro e
    subst e
    omega

theorem fdiv_nat (x m : Nat) : ((x : Int).fdiv (2 ^ m)) = ((x / 2 ^ m : Nat) : Int) := by
  rw [Int.fdiv_eq_ediv_of_nonneg _ (by exact Int.pow_nonneg (by omega))]
  simp

instance : Atom (At B) where
  cells := At.cells
  size := At.size
  len := by intro a; cases a <;> first | rfl | exact Big.len _ | (simp [At.cells, At.size])
  one := by intro a v hv; cases a <;> first | exact Big.one _ v hv | (simp [At.cells] at hv; subst hv; rfl) | (simp only [At.cells, List.mem_map] at hv; obtain ⟨_, _, rfl⟩ := hv; rfl)
  int := At.int
  int_ok := by intro a k z h; cases a <;> simp [At.int] at h <;> (obtain ⟨rfl, rfl⟩ := h; rfl)
  wrap := At.wrap
  wrap_ok := by
    intro k z a h
    cases k <;> simp [At.wrap] at h <;> subst h <;> simp [At.cells, IntKind.wrap, IntKind.bits, IntKind.signed] <;> omega
  shr := At.shr
  shr_ok := by
    intro a b m k z h h'
    cases a <;> simp [At.shr, At.int] at h h' <;> (obtain ⟨rfl, rfl⟩ := h'; subst h; rw [fdiv_nat]; simp only [At.cells]; congr 2)
    · rename_i x
      rw [UInt64.toNat_ofNat_of_lt']
      exact Nat.lt_of_le_of_lt (Nat.div_le_self _ _) x.toNat_lt
    · rename_i x
      rw [UInt32.toNat_ofNat_of_lt']
      exact Nat.lt_of_le_of_lt (Nat.div_le_self _ _) x.toNat_lt
    · rename_i x
      rw [UInt8.toNat_ofNat_of_lt']
      exact Nat.lt_of_le_of_lt (Nat.div_le_self _ _) x.toNat_lt
  parts := At.parts
  parts_ok := by
    intro a l h
    cases a
    case big x =>
      simp only [At.parts] at h
      split at h
      · rename_i r hr
        obtain rfl := Option.some.inj h
        refine ⟨?_, fun x hx => ?_⟩
        · simp only [At.cells, Big.words_ok hr, List.map_map]
          exact (flat_single _ _ (fun x => rfl) _).symm
        · simp only [List.mem_map] at hx
          obtain ⟨_, _, rfl⟩ := hx
          rfl
      · cases h
    all_goals simp only [At.parts, Option.some.injEq] at h <;> first | (cases h; done) | (subst h; refine ⟨?_, ?_⟩) <;> first
      | (simp only [At.cells, List.map_map]; exact (flat_single _ _ (fun x => rfl) _).symm)
      | (intro x hx; simp only [List.mem_map] at hx; obtain ⟨_, _, rfl⟩ := hx; rfl)
  pack := At.pack
  pack_ok := by
    intro l b h
    unfold At.pack at h
    split at h
    · split at h
      · rename_i r hr
        simp at h; subst h
        rw [list8_cells hr, ← pickN_range 0]; rfl
      · cases h
    · split at h
      · rename_i r hr
        simp at h; subst h
        rw [list32_cells hr, ← pickN_range 0]; rfl
      · cases h
    · split at h
      · rename_i r hr
        simp at h; subst h
        rw [list64_cells hr, ← pickN_range 0]; rfl
      · cases h
  get := At.get
  get_ok := by
    intro a i b h hi
    cases a
    case big x =>
      simp only [At.get] at h
      split at h
      · rename_i r hr
        obtain rfl := Option.some.inj h
        have e := Big.words_ok hr
        have hl : i < r.length := by
          have h1 : i < Big.size x := hi
          rw [← Big.len, e] at h1
          simpa using h1
        refine ⟨.int .u64 (pickN 0 r i).toNat, ?_, rfl⟩
        simp only [At.cells, e, List.getElem?_map, pickN_at 0 r i hl]
        rfl
      · cases h
    all_goals simp [At.get] at h <;> subst h <;> (have hi' := List.getElem?_range (n := _) hi; exact ⟨_, by simp only [At.cells, List.getElem?_map]; exact congrArg (Option.map _) hi', rfl⟩)
  isByte := fun | .u8 _ => true | _ => false
  byte := fun | .u8 x => x | _ => 0
  byte_ok := by
    intro a h
    cases a <;> simp at h
    rfl
  dummy := .u8 0
  glob g j := .u32 (Big.tab B g j)
  num k z := some (.num k z)
  num_ok := by
    intro k z a h
    obtain rfl := Option.some.inj h
    rfl
  many := At.many
  many_ok := by
    intro a n b h
    cases a <;> simp [At.many] at h
    subst h
    simp only [At.cells]
    apply List.ext_getElem?
    intro j
    rw [List.getElem?_map]
    have e : ∀ (n : Nat) (v : Value), (List.replicate n [v]).flatten = List.replicate n v := by
      intro n v
      induction n with
      | zero => rfl
      | succ n ih => rw [List.replicate_succ, List.flatten_cons, ih]; rfl
    rw [e]
    rcases Nat.lt_or_ge j n with hj | hj
    · rw [List.getElem?_range hj, List.getElem?_replicate, if_pos hj]; rfl
    · rw [List.getElem?_eq_none (by simpa using hj), List.getElem?_eq_none (by simpa using hj)]; rfl
  wide := At.wide
  bool := fun | .bo x => some x | _ => none
  bool_ok := by
    intro a b h
    cases a <;> simp at h
    subst h
    rfl
  ofB b := some (.bo b)
  ofB_ok := by
    intro b a h
    obtain rfl := Option.some.inj h
    rfl
  splice := At.splice
  splice_ok := by
    intro a g k b p h hp hk vs hvs hg
    cases a with
    | w8 n f =>
      simp only [At.splice, Option.some.injEq, Prod.mk.injEq] at h
      obtain ⟨rfl, rfl⟩ := h
      have hk : k ≤ n := hk
      apply List.ext_getElem?
      intro j
      simp only [At.cells, List.getElem?_map]
      rcases Nat.lt_or_ge j k with hj | hj
      · have hb : Nat.blt j k = true := by simpa [Nat.blt_eq] using hj
        obtain ⟨x, hx⟩ := hp j hj
        have hjv : j < vs.length := by omega
        have h2 := hg j _ (List.getElem?_eq_getElem hjv)
        rw [hx] at h2
        have h3 : [Value.int .u8 x.toNat] = [vs[j]] := h2
        simp at h3
        rw [List.getElem?_append_left hjv, List.getElem?_range (by omega), List.getElem?_eq_getElem hjv]
        simp [hb, hx, h3]
      · have hb : Nat.blt j k = false := by
          cases hb : Nat.blt j k with
          | false => rfl
          | true => rw [Nat.blt_eq] at hb; omega
        rw [List.getElem?_append_right (by omega), hvs, List.getElem?_drop, List.getElem?_map, show k + (j - k) = j by omega]
        rcases Nat.lt_or_ge j n with hjn | hjn
        · rw [List.getElem?_range hjn]; simp [hb]
        · rw [List.getElem?_eq_none (by simpa using hjn)]; rfl
    | _ => simp [At.splice] at h
  like := At.like
  like_ok := by
    intro a r b h
    unfold At.like at h
    split at h
    · split at h
      · rename_i b' hb
        obtain rfl := Option.some.inj h
        simp only [At.cells, Big.like_ok hb, List.map_map]
        rfl
      · cases h
    · split at h
      · rename_i l hl
        obtain rfl := Option.some.inj h
        simp only [At.cells, Big.words_ok hl]
        exact pickN_range 0 (fun x : UInt64 => Value.int .u64 x.toNat) l
      · cases h
    · cases h
  set := At.set
  set_ok := by
    intro a i b c h hi0
    clear hi0
    cases a
    case big z =>
      have e : ∀ {l : List UInt64}, Big.words z = some l → At.cells (.big z) = (List.range l.length).map fun i => Value.int .u64 (pickN 0 l i).toNat := by
        intro l hl
        simp only [At.cells, Big.words_ok hl]
        exact (pickN_range 0 (fun x : UInt64 => Value.int .u64 x.toNat) l).symm
      cases b
      case u64 y =>
        simp only [At.set] at h
        split at h
        · rename_i l hl
          obtain rfl := Option.some.inj h
          refine ⟨_, rfl, ?_⟩
          rw [e hl]
          simp only [At.cells]
          rw [row_set (fun x : UInt64 => Value.int .u64 x.toNat)]
        · cases h
      case cy y =>
        simp only [At.set] at h
        split at h
        · rename_i l hl
          obtain rfl := Option.some.inj h
          refine ⟨_, rfl, ?_⟩
          rw [e hl]
          simp only [At.cells]
          rw [row_set (fun x : UInt64 => Value.int .u64 x.toNat)]
          cases y <;> rfl
        · cases h
      all_goals simp [At.set] at h
    all_goals cases b <;> simp [At.set] at h <;> subst h <;> refine ⟨_, rfl, ?_⟩ <;> first
      | (simp only [At.cells]; rw [row_set (fun x : UInt64 => Value.int .u64 x.toNat)]; done)
      | (simp only [At.cells]; rw [row_set (fun x : UInt32 => Value.int .u32 x.toNat)]; done)
      | (simp only [At.cells]; rw [row_set (fun x : UInt8 => Value.int .u8 x.toNat)]; done)
      | (rename_i x; simp only [At.cells]; rw [row_set (fun x : UInt64 => Value.int .u64 x.toNat)]; cases x <;> rfl)

end

/-- A type of data, as cells. -/
class Rep (A : Type) [Atom A] (T : Type) where
  agg : Bool
  shw : T → List (SV A)
  vals : T → List Value
  parse : List (SV A) → Option T
  is : ∀ (β : Adr) (x : T), LIs β (shw x) (vals x)
  only : ∀ {β : Adr} {x : T} {vs}, LIs β (shw x) vs → vs = vals x
  ok : ∀ {β : Adr} {l : List (SV A)} {x : T} {vs}, parse l = some x → LIs β l vs → vs = vals x
  single : agg = false → ∀ x : T, ∃ v, vals x = [v]

section
variable {A : Type} [Atom A]

/-- The value itself. -/
def Rep.val {T : Type} [Rep A T] (x : T) : Value :=
  match Rep.agg A T with
  | true => .agg (Rep.vals A x).toArray
  | false => (Rep.vals A x).headD undef

def Rep.tv {T : Type} [Rep A T] (x : T) : TV A := .val (Rep.agg A T) (Rep.shw x)

theorem Rep.tv_is {T : Type} [r : Rep A T] (β : Adr) (x : T) : (Rep.tv (A := A) x).Is β (Rep.val (A := A) x) := by
  unfold Rep.tv Rep.val
  show VIs β _ _ _
  cases h : Rep.agg A T with
  | true => exact ⟨_, Rep.is β x, rfl⟩
  | false =>
    obtain ⟨v, hv⟩ := Rep.single h x
    have := Rep.is (A := A) β x
    rw [hv] at this
    simp only [hv, List.headD_cons]
    exact this

theorem Rep.tv_only {T : Type} [r : Rep A T] {β : Adr} {x : T} {v : Value} (hv : (Rep.tv (A := A) x).Is β v) : v = Rep.val (A := A) x := by
  unfold Rep.tv at hv
  unfold Rep.val
  have hv' : VIs β (Rep.agg A T) (Rep.shw x) v := hv
  cases h : Rep.agg A T with
  | true =>
    rw [h] at hv'
    obtain ⟨vs, h1, rfl⟩ := hv'
    rw [Rep.only h1]
  | false =>
    rw [h] at hv'
    have := Rep.only (x := x) hv'
    simp only [← this, List.headD_cons]

/-- A type of arguments: with what is not told of them (G): where they lie. -/
class Arg (A : Type) [Atom A] (T : Type) where
  G : Type
  good : World → G → T → Prop
  tv : G → T → TV A
  val : G → T → Value
  is : ∀ {W : World} {g : G} {x : T} (β : Adr), good W g x → (tv g x).Is β (val g x)
  parse : (Addr → Option Value) → Mem A → TV A → Option (T × List Prop)
  ok : ∀ {c : Cfg A} {X : Nat → Prop} {W0 W : World} {β : Adr} {m : Mem A} {t : TV A} {x : T} {vc : List Prop} {v : Value}, parse c.old m t = some (x, vc) → (∀ p ∈ vc, p) → MRel c X W0 β m W → t.Is β v → ∃ g, good W g x ∧ v = val g x

def argParse {T : Type} [Rep A T] : TV A → Option (T × List Prop)
  | .val g l =>
    if g = Rep.agg A T then
      match Rep.parse l with
      | some x => some (x, [])
      | none => none
    else none
  | _ => none

instance (priority := low) {T : Type} [Rep A T] : Arg A T where
  G := Unit
  good _ _ _ := True
  tv _ x := Rep.tv x
  val _ x := Rep.val (A := A) x
  is β _ := Rep.tv_is β _
  parse _ _ t := argParse t
  ok := by
    intro c X W0 W β m t x vc v h _ _ e
    refine ⟨(), trivial, ?_⟩
    unfold argParse at h
    split at h
    · rename_i g cs
      split at h
      · rename_i hg
        split at h
        · rename_i a ha
          simp at h
          obtain ⟨rfl, _⟩ := h
          have h1' : VIs β g cs v := e
          subst hg
          unfold Rep.val
          cases hag : Rep.agg A T with
          | true =>
            rw [hag] at h1'
            obtain ⟨us, k1, rfl⟩ := h1'
            rw [Rep.ok ha k1]
          | false =>
            rw [hag] at h1'
            have := Rep.ok ha h1'
            simp only [← this, List.headD_cons]
        · cases h
      · cases h
    · cases h

/-- A list of arguments. -/
class Args (A : Type) [Atom A] (Γ : Type) where
  G : Type
  good : World → G → Γ → Prop
  tvs : G → Γ → List (TV A)
  vals : G → Γ → List Value
  is : ∀ {W : World} {g : G} {x : Γ} (β : Adr), good W g x → TsIs β (tvs g x) (vals g x)
  parse : (Addr → Option Value) → Mem A → List (TV A) → Option (Γ × List Prop)
  ok : ∀ {c : Cfg A} {X : Nat → Prop} {W0 W : World} {β : Adr} {m : Mem A} {l : List (TV A)} {x : Γ} {vc : List Prop} {vs : List Value}, parse c.old m l = some (x, vc) → (∀ p ∈ vc, p) → MRel c X W0 β m W → TsIs β l vs → ∃ g, good W g x ∧ vs = vals g x

instance : Args A Unit where
  G := Unit
  good _ _ _ := True
  tvs _ _ := []
  vals _ _ := []
  parse | _, _, [] => some ((), []) | _, _, _ => none
  is _ _ := rfl
  ok := by
    intro c X W0 W β m l x vc vs h _ _ e
    cases l with
    | nil => exact ⟨(), trivial, e⟩
    | cons _ _ => cases h

def argsParse {T Γ : Type} [Arg A T] [Args A Γ] (old : Addr → Option Value) (m : Mem A) : List (TV A) → Option ((T × Γ) × List Prop)
  | t :: r =>
    match Arg.parse old m t, Args.parse old m r with
    | some (x, v1), some (y, v2) => some ((x, y), v1 ++ v2)
    | _, _ => none
  | _ => none

instance {T Γ : Type} [Arg A T] [Args A Γ] : Args A (T × Γ) where
  G := Arg.G A T × Args.G A Γ
  good W g x := Arg.good W g.1 x.1 ∧ Args.good W g.2 x.2
  tvs g x := Arg.tv g.1 x.1 :: Args.tvs g.2 x.2
  vals g x := Arg.val g.1 x.1 :: Args.vals g.2 x.2
  parse := argsParse
  is β h := ⟨_, _, Arg.is β h.1, Args.is β h.2, rfl⟩
  ok := by
    intro c X W0 W β m l x vc vs h hvc hm e
    unfold argsParse at h
    split at h
    · rename_i t r
      split at h
      · rename_i a v1 b v2 ha hb
        simp at h
        obtain ⟨rfl, rfl⟩ := h
        obtain ⟨v, r', h1, h2, rfl⟩ := e
        obtain ⟨g1, k1, rfl⟩ := Arg.ok ha (fun p hp => hvc p (by simp [hp])) hm h1
        obtain ⟨g2, k2, rfl⟩ := Args.ok hb (fun p hp => hvc p (by simp [hp])) hm h2
        exact ⟨(g1, g2), ⟨k1, k2⟩, rfl⟩
      · cases h
    · cases h

/-- A result. -/
class Res (A : Type) [Atom A] (R : Type) where
  tv : R → TV A
  val : R → Value
  is : ∀ (β : Adr) (x : R), (tv x).Is β (val x)
  only : ∀ {β : Adr} {x : R} {v}, (tv x).Is β v → v = val x
  parse : TV A → Option R
  ok : ∀ {β : Adr} {t : TV A} {x : R} {v}, parse t = some x → t.Is β v → v = val x

def Rep.parseV {T : Type} [Rep A T] (g : Bool) (l : List (SV A)) : Option T := if g = Rep.agg A T then Rep.parse l else none

theorem Rep.parseV_ok {T : Type} [Rep A T] {β : Adr} {g : Bool} {l : List (SV A)} {x : T} {v : Value} (h : Rep.parseV g l = some x) (e : VIs β g l v) : v = Rep.val (A := A) x := by
  unfold Rep.parseV at h
  split at h
  · rename_i hg
    subst hg
    unfold Rep.val
    cases hag : Rep.agg A T with
    | true =>
      rw [hag] at e
      obtain ⟨us, k1, rfl⟩ := e
      rw [Rep.ok h k1]
    | false =>
      rw [hag] at e
      have := Rep.ok h e
      simp only [← this, List.headD_cons]
  · cases h

instance (priority := low) {T : Type} [Rep A T] : Res A T where
  tv := Rep.tv
  val := Rep.val (A := A)
  is := Rep.tv_is
  only := Rep.tv_only
  parse
    | .val g l => Rep.parseV g l
    | _ => none
  ok := by
    intro β t x v h e
    split at h
    · exact Rep.parseV_ok h e
    · cases h

/-- Two results, three. -/
structure T2 (U V : Type) where
  a : U
  b : V
structure T3 (U V W : Type) where
  a : U
  b : V
  c : W

instance {U V : Type} [Rep A U] [Rep A V] : Res A (T2 U V) where
  tv x := .tup [(Rep.agg A U, Rep.shw x.a), (Rep.agg A V, Rep.shw x.b)]
  val x := .tuple #[Rep.val (A := A) x.a, Rep.val (A := A) x.b]
  is β x := ⟨[_, _], ⟨_, _, Rep.tv_is β x.a, ⟨_, [], Rep.tv_is β x.b, rfl, rfl⟩, rfl⟩, rfl⟩
  only := by
    rintro β x v ⟨vs, ⟨v1, r1, h1, ⟨v2, r2, h2, e, rfl⟩, rfl⟩, rfl⟩
    obtain rfl : r2 = [] := e
    rw [Rep.tv_only (A := A) (x := x.a) h1, Rep.tv_only (A := A) (x := x.b) h2]
  parse
    | .tup [(g, l), (g', l')] =>
      match Rep.parseV g l, Rep.parseV g' l' with
      | some a, some b => some ⟨a, b⟩
      | _, _ => none
    | _ => none
  ok := by
    intro β t x v h e
    split at h
    · split at h
      · rename_i a b ha hb
        simp at h; subst h
        obtain ⟨vs, ⟨v1, r1, h1, ⟨v2, r2, h2, e, rfl⟩, rfl⟩, rfl⟩ := e
        obtain rfl : r2 = [] := e
        rw [Rep.parseV_ok ha h1, Rep.parseV_ok hb h2]
      · cases h
    · cases h

instance {U V W : Type} [Rep A U] [Rep A V] [Rep A W] : Res A (T3 U V W) where
  tv x := .tup [(Rep.agg A U, Rep.shw x.a), (Rep.agg A V, Rep.shw x.b), (Rep.agg A W, Rep.shw x.c)]
  val x := .tuple #[Rep.val (A := A) x.a, Rep.val (A := A) x.b, Rep.val (A := A) x.c]
  is β x := ⟨[_, _, _], ⟨_, _, Rep.tv_is β x.a, ⟨_, _, Rep.tv_is β x.b, ⟨_, [], Rep.tv_is β x.c, rfl, rfl⟩, rfl⟩, rfl⟩, rfl⟩
  only := by
    rintro β x v ⟨vs, ⟨v1, r1, h1, ⟨v2, r2, h2, ⟨v3, r3, h3, e, rfl⟩, rfl⟩, rfl⟩, rfl⟩
    obtain rfl : r3 = [] := e
    rw [Rep.tv_only (A := A) (x := x.a) h1, Rep.tv_only (A := A) (x := x.b) h2, Rep.tv_only (A := A) (x := x.c) h3]
  parse
    | .tup [(g, l), (g', l'), (g'', l'')] =>
      match Rep.parseV g l, Rep.parseV g' l', Rep.parseV g'' l'' with
      | some a, some b, some c => some ⟨a, b, c⟩
      | _, _, _ => none
    | _ => none
  ok := by
    intro β t x v h e
    split at h
    · split at h
      · rename_i a b c ha hb hc
        simp at h; subst h
        obtain ⟨vs, ⟨v1, r1, h1, ⟨v2, r2, h2, ⟨v3, r3, h3, e, rfl⟩, rfl⟩, rfl⟩, rfl⟩ := e
        obtain rfl : r3 = [] := e
        rw [Rep.parseV_ok ha h1, Rep.parseV_ok hb h2, Rep.parseV_ok hc h3]
      · cases h
    · cases h

/-- What is said of a value that a call leaves: in the world W behind it (n: how many objects there were ahead of it). -/
class Ret (A : Type) [Atom A] (R : Type) where
  tv : R → TV A
  good : World → Nat → R → Value → Prop
  is : ∀ {W : World} {n : Nat} {x : R} {v : Value}, good W n x v → ∃ K : Addr → Value → Prop, (∀ a u, K a u → W.cell? a = some u ∧ n ≤ a.block) ∧ ∀ β : Adr, (tv x).Is (β.know K) v
  parse : Mem A → TV A → Option (R × List Prop)
  ok : ∀ {c : Cfg A} {W0 W : World} {β : Adr} {m : Mem A} {t : TV A} {x : R} {vc : List Prop} {v : Value}, parse m t = some (x, vc) → (∀ p ∈ vc, p) → MRel c (fun _ => False) W0 β m W → t.Is β v → good W W0.heap.size x v

instance (priority := low) {R : Type} [Res A R] : Ret A R where
  tv := Res.tv
  good _ _ x v := v = Res.val A x
  is h := ⟨fun _ _ => False, fun _ _ h => h.elim, fun β => by rw [h]; exact Res.is _ _⟩
  parse _ t := match Res.parse t with | some x => some (x, []) | none => none
  ok := by
    intro c W0 W β m t x vc v h _ _ e
    split at h
    · rename_i y hy
      simp at h
      obtain ⟨rfl, _⟩ := h
      exact Res.ok hy e
    · cases h

/-- A run's result, and what must hold. -/
def retOf {R : Type} [Ret A R] (r : TV A × Mem A × List Prop) : Option R × List Prop :=
  match Ret.parse r.2.1 r.1 with
  | some (x, v) => (some x, v ++ r.2.2)
  | none => (none, r.2.2)

theorem retOf_some {R : Type} [Ret A R] {r : TV A × Mem A × List Prop} {y : R} {vc : List Prop} (h : retOf r = (some y, vc)) : ∃ v, Ret.parse r.2.1 r.1 = some (y, v) ∧ vc = v ++ r.2.2 := by
  unfold retOf at h
  split at h
  · rename_i x v hx
    simp at h
    obtain ⟨rfl, rfl⟩ := h
    exact ⟨v, hx, rfl⟩
  · cases h

/-- Function g computes f, touching nothing. -/
def Computes (A : Type) [Atom A] {Γ R : Type} [Args A Γ] [Ret A R] (P : Program) (g : FuncId) (f : Γ → R) : Prop :=
  ∀ (gh : Args.G A Γ) (x : Γ) (W : World), Args.good W gh x → CallSem P g (Args.vals gh x) W (fun v W' => Ret.good A W' W.heap.size (f x) v ∧ Keeps W W')

/-- A row of a table of calls. -/
structure Row (A : Type) where
  g : FuncId
  e : (Addr → Option Value) → List (TV A) → Mem A → Option (TV A × Option (Mem A) × List Prop)
  /-- does a call leave the blocks that there are as they are? -/
  adds : Bool := false
  adds_ok : adds = true → ∀ old args m res m' vc, e old args m = some (res, some m', vc) → ∀ b, b < m.length → nth m' b = nth m b := by intro h; cases h

def rowOf (A : Type) [Atom A] {Γ R : Type} [Args A Γ] [Ret A R] (g : FuncId) (f : Γ → R) : Row A where
  g := g
  e := fun old args m =>
    match Args.parse old m args with
    | some (x, vc) => some (Ret.tv (f x), none, vc)
    | none => none
  adds := true
  adds_ok := by
    intro _ old args m res m' vc h
    split at h
    · simp at h
    · cases h

def RowOK (P : Program) (r : Row A) : Prop :=
  ∀ (c : Cfg A) (args : List (TV A)) (m : Mem A) (res : TV A) (mm : Option (Mem A)) (vc : List Prop), c.P = P → r.e c.old args m = some (res, mm, vc) → (∀ p ∈ vc, p) →
    ∀ (X : Nat → Prop) (W0 W : World) (β : Adr) (vs : List Value), c.gl = (fun _ => none) → MRel c X W0 β m W → TsIs β args vs →
      match mm with
      | none => CallSem P r.g vs W (fun v W' => ∃ K, Fresh W W' K ∧ res.Is (β.know K) v ∧ Keeps W W')
      | some m' => Top β m → CallSem P r.g vs W (fun v W' => ∃ β', Adr.le β β' ∧ res.Is β' v ∧ MRel c X W0 β' m' W' ∧ Top β' m' ∧ NC W W')

theorem CallSem.mono {P : Program} {g : FuncId} {vs : List Value} {W : World} {p q : Value → World → Prop} (h : CallSem P g vs W p) (hpq : ∀ v W', p v W' → q v W') : CallSem P g vs W q := by
  rcases h with ⟨v, h1, h2⟩ | ⟨h1, h2⟩
  · exact .inl ⟨v, h1, hpq _ _ h2⟩
  · refine .inr ⟨h1, h2.mono ?_⟩
    rintro e W' ⟨v, rfl, hv⟩
    exact ⟨v, rfl, hpq _ _ hv⟩

theorem Computes.row {P : Program} {Γ R : Type} [Args A Γ] [Ret A R] {g : FuncId} {f : Γ → R} (h : Computes A P g f) : RowOK P (rowOf A g f) := by
  intro c args m res mm vc _ he hvc X W0 W β vs _ hm hvs
  simp only [rowOf] at he
  split at he
  · rename_i x vc' hx
    simp at he
    obtain ⟨rfl, rfl, rfl⟩ := he
    obtain ⟨gh, hg, rfl⟩ := Args.ok hx hvc hm hvs
    refine (h gh x W hg).mono (fun v W' hv => ?_)
    obtain ⟨K, k1, k2⟩ := Ret.is hv.1
    exact ⟨K, k1, k2 β, hv.2⟩
  · cases he

def findRow (g : FuncId) : List (Row A) → Option (Row A)
  | [] => none
  | r :: l => if Nat.beq r.g g then some r else findRow g l

/-- A row of a table of functions that are ranged over. -/
structure IRow (A : Type) where
  g : FuncId
  e : (Addr → Option Value) → List (Ys A) → YF A → List (TV A) → Nat → Mem A → Pds → Option (Mem A × Pds × List Prop)

def IRowOK (P : Program) (r : IRow A) : Prop :=
  ∀ (old : Addr → Option Value) (ys : List (Ys A)) (yf : YF A) (args : List (TV A)) (rd : Nat) (m : Mem A) (pd : Pds) (m' : Mem A) (pd' : Pds) (vc : List Prop), r.e old ys yf args rd m pd = some (m', pd', vc) → (∀ p ∈ vc, p) →
    ∀ c1 : Cfg A, c1.P = P → c1.gl = (fun _ => none) → c1.old = old → c1.ys = ys → c1.yf = yf → YOK c1 → ∀ (X : Nat → Prop) (W0 W : World) (β : Adr) (vs : List Value), MRel c1 X W0 β m W → Top β m → YAll X W0 β ys pd W → TsIs β args vs →
      (∀ args W, (callFunc r.g args).run P W = .ok (.enter r.g args) W) ∧
      Calls P r.g vs.toArray W (fun e W' => (∃ v, e = .returned v) ∧ ∃ β', Adr.le β β' ∧ MRel c1 X W0 β' m' W' ∧ Top β' m' ∧ YAll X W0 β' ys pd' W')

def findIRow (g : FuncId) : List (IRow A) → Option (IRow A)
  | [] => none
  | r :: l => if Nat.beq r.g g then some r else findIRow g l

def noYield : YF A := fun _ _ _ _ _ => none
def noLoop : Nat → Option (St A × Ex × St A) := fun _ => none

/-- The settings of a run: a program, a table of calls, a table of functions that are ranged over, an oracle; what lies in memory that is not ours; the loops that are told; the loops over functions that are under way. -/
def cfgW (P : Program) (tbl : List (Row A)) (its : List (IRow A)) (orc : Nat → Nat → Dec) (old : Addr → Option Value) (lp : Nat → Option (St A × Ex × St A)) (ys : List (Ys A)) (yf : YF A) : Cfg A where
  P := P
  gl := fun _ => none
  orc := orc
  call := fun g args m =>
    match findRow g tbl with
    | some r => r.e old args m
    | none => none
  adds := fun g => match findRow g tbl with | some r => r.adds | none => false
  old := old
  lp := lp
  ys := ys
  yf := yf
  it := fun g ys yf args rd m pd =>
    match findIRow g its with
    | some r => r.e old ys yf args rd m pd
    | none => none

/-- No loop over a function. -/
abbrev cfg (P : Program) (tbl : List (Row A)) (orc : Nat → Nat → Dec) (old : Addr → Option Value := fun _ => none) (lp : Nat → Option (St A × Ex × St A) := noLoop) : Cfg A :=
  cfgW P tbl [] orc old lp [] noYield

/-- Oracles: the tests in the slots of a list are so; all others are kept. -/
def says (l : List (Nat × Bool)) : Nat → Nat → Dec := fun _ t =>
  match l with
  | [] => .keep
  | (d, b) :: r => if Nat.beq d t then .take b else says r 0 t
def reckons : Nat → Nat → Dec := fun _ _ => .eval
/-- The test in slot k holds, all others fail. -/
def only (k : Nat) : Nat → Nat → Dec := fun _ t => .take (Nat.beq t k)

def TblOK (P : Program) (tbl : List (Row A)) : Prop := ∀ r ∈ tbl, RowOK P r

theorem TblOK.nil (P : Program) : TblOK (A := A) P [] := fun _ h => by cases h
theorem TblOK.cons {P : Program} {r : Row A} {tbl : List (Row A)} (h : RowOK P r) (ht : TblOK P tbl) : TblOK P (r :: tbl) := fun x hx => by
  rcases List.mem_cons.1 hx with rfl | hx
  · exact h
  · exact ht x hx
theorem TblOK.append {P : Program} {l r : List (Row A)} (h : TblOK P l) (ht : TblOK P r) : TblOK P (l ++ r) := fun x hx => by
  rcases List.mem_append.1 hx with hx | hx
  · exact h x hx
  · exact ht x hx

omit [Atom A] in
theorem findRow_mem {g : FuncId} : ∀ {l : List (Row A)} {r : Row A}, findRow g l = some r → r ∈ l ∧ r.g = g
  | [], _, h => by simp [findRow] at h
  | x :: l, r, h => by
    unfold findRow at h
    split at h
    · rename_i hb
      simp at h; subst h
      exact ⟨by simp, Nat.eq_of_beq_eq_true hb⟩
    · obtain ⟨h1, h2⟩ := findRow_mem h
      exact ⟨by simp [h1], h2⟩

theorem addsOK {P : Program} (tbl : List (Row A)) (its : List (IRow A)) (orc : Nat → Nat → Dec) (old : Addr → Option Value) (lp : Nat → Option (St A × Ex × St A)) (ys : List (Ys A)) (yf : YF A) :
    AddsOK (cfgW P tbl its orc old lp ys yf) (cfgW P tbl its orc old lp ys yf).adds := by
  intro g args m res m' vc ha hc
  simp only [cfgW] at ha hc
  split at ha
  · rename_i r hr
    rw [hr] at hc
    exact r.adds_ok ha _ _ _ _ _ _ hc
  · cases ha
theorem callsOK {P : Program} {tbl : List (Row A)} (h : TblOK P tbl) (its : List (IRow A)) (orc : Nat → Nat → Dec) (old : Addr → Option Value) (lp : Nat → Option (St A × Ex × St A)) (ys : List (Ys A)) (yf : YF A) : CallsOK (cfgW P tbl its orc old lp ys yf) := by
  intro g args m res mm vc hc hvc X W0 W β vs hm ha
  simp only [cfgW] at hc
  split at hc
  · rename_i r hr
    obtain ⟨h1, rfl⟩ := findRow_mem hr
    exact h r h1 (cfgW P tbl its orc old lp ys yf) args m res mm vc rfl hc hvc X W0 W β vs rfl hm ha
  · cases hc

def ITblOK (P : Program) (its : List (IRow A)) : Prop := ∀ r ∈ its, IRowOK P r
theorem ITblOK.nil (P : Program) : ITblOK (A := A) P [] := fun _ h => by cases h
theorem ITblOK.cons {P : Program} {r : IRow A} {its : List (IRow A)} (h : IRowOK P r) (ht : ITblOK P its) : ITblOK P (r :: its) := fun x hx => by
  rcases List.mem_cons.1 hx with rfl | hx
  · exact h
  · exact ht x hx

omit [Atom A] in
theorem findIRow_mem {g : FuncId} : ∀ {l : List (IRow A)} {r : IRow A}, findIRow g l = some r → r ∈ l ∧ r.g = g
  | [], _, h => by simp [findIRow] at h
  | x :: l, r, h => by
    unfold findIRow at h
    split at h
    · rename_i hb
      simp at h; subst h
      exact ⟨by simp, Nat.eq_of_beq_eq_true hb⟩
    · obtain ⟨h1, h2⟩ := findIRow_mem h
      exact ⟨by simp [h1], h2⟩

/-- Calls of yield are right, whatever else a run's settings are. -/
def YFOK (P : Program) (old : Addr → Option Value) (ys : List (Ys A)) (yf : YF A) : Prop :=
  ∀ c : Cfg A, c.P = P → c.gl = (fun _ => none) → c.old = old → c.ys = ys → c.yf = yf → YOK c

theorem YFOK.none (P : Program) (old : Addr → Option Value) : YFOK (A := A) P old [] noYield := by
  intro c _ _ _ _ hyf i args rd m pd b m' pd' vc h
  rw [hyf] at h
  cases h

theorem cfgOK {P : Program} {tbl : List (Row A)} (h : TblOK P tbl) {its : List (IRow A)} (hi : ITblOK P its) (orc : Nat → Nat → Dec) {old : Addr → Option Value} (lp : Nat → Option (St A × Ex × St A)) {ys : List (Ys A)} {yf : YF A} (hy : YFOK P old ys yf) : CfgOK (cfgW P tbl its orc old lp ys yf) := by
  refine ⟨addsOK tbl its orc old lp ys yf, callsOK h its orc old lp ys yf, hy _ rfl rfl rfl rfl rfl, ?_⟩
  intro g ys' yf' args rd m pd m' pd' vc hit hvc c1 e1 e2 e3 e4 e5 hyok X W0 W β vs hm ht hya ha
  simp only [cfgW] at hit
  split at hit
  · rename_i r hr
    obtain ⟨h1, rfl⟩ := findIRow_mem hr
    exact hi r h1 old ys' yf' args rd m pd m' pd' vc hit hvc c1 e1 e2 e3 e4 e5 hyok X W0 W β vs hm ht hya ha
  · cases hit

theorem cfgOK0 {P : Program} {tbl : List (Row A)} (h : TblOK P tbl) {its : List (IRow A)} (hi : ITblOK P its) (orc : Nat → Nat → Dec) (old : Addr → Option Value) (lp : Nat → Option (St A × Ex × St A)) : CfgOK (cfgW P tbl its orc old lp [] noYield) :=
  cfgOK h hi orc lp (YFOK.none P old)

/-- One loop over a function more. -/
theorem YFOK.push {P : Program} {tbl : List (Row A)} {its : List (IRow A)} {orc : Nat → Nat → Dec} {old : Addr → Option Value} {lp : Nat → Option (St A × Ex × St A)} {ys : List (Ys A)} {yf : YF A} (hc : CfgOK (cfgW P tbl its orc old lp ys yf)) (fuel : Nat) (s : Ys A)
    (hx : LoopsOK (cfgW P tbl its orc old lp ys yf) s.assign) (hb : LoopsOK (cfgW P tbl its orc old lp ys yf) s.body) :
    YFOK P old (s :: ys) (pushY (exec (cfgW P tbl its orc old lp ys yf) fuel s.assign) (exec (cfgW P tbl its orc old lp ys yf) fuel s.body) s yf) := by
  intro c1 e1 e2 e3 e4 e5
  exact pushY_ok (c := cfgW P tbl its orc old lp ys yf) hc.ys (exec_sound hc _ hx) (exec_sound hc _ hb) (exec_vc _) c1 e1 e2 e3 e4 e5

/-- A function without a body that runs here and now. -/
theorem computes_extern {P : Program} {g : FuncId} {fn : Func} {Γ R : Type} [Args A Γ] [Res A R] {f : Γ → R} {en : Array Value → Sem Value} (hf : P.funcs[g]? = some fn)
    (hn : (fn.name == "runtime.NumGoroutine") = false) (hb : fn.body.isNone = true) (hnx : Extern.findNext fn = none) (he : Extern.find fn = some en)
    (h : ∀ (gh : Args.G A Γ) (x : Γ) (W : World), Args.good W gh x → (en (Args.vals gh x).toArray).run P W = .ok (Res.val A (f x)) W) : Computes A P g f := by
  intro gh x W hg
  refine .inl ⟨_, ?_, rfl, Keeps.refl W⟩
  rw [run_callFunc_extern hf hn hb hnx he, h gh x W hg]
  rfl

theorem callFunc_enter {P : Program} {g : FuncId} {fn : Func} (hf : P.funcs[g]? = some fn) (hn : (fn.name == "runtime.NumGoroutine") = false) (hb : fn.body.isNone = false) (args : Array Value) (W : World) :
    (callFunc g args).run P W = .ok (.enter g args) W := by
  have h1 : fn.name ≠ "runtime.NumGoroutine" := by simpa using hn
  have h2 : ¬ fn.body = none := by intro h; simp [h] at hb
  simp [callFunc, hf, h1, h2]

/-- All of a list hold. -/
def All (vc : List Prop) : Prop := vc.foldr And True

theorem All.mem : ∀ {vc : List Prop}, All vc → ∀ p ∈ vc, p
  | [], _, _, h => by cases h
  | q :: l, h, p, hp => by
    have h' : q ∧ All l := h
    rcases List.mem_cons.1 hp with rfl | hp
    · exact h'.1
    · exact All.mem h'.2 p hp

theorem All.nil : All [] := trivial
theorem All.cons {p : Prop} {l : List Prop} (h : p) (hl : All l) : All (p :: l) := ⟨h, hl⟩

theorem loopsOK_none (P : Program) (tbl : List (Row A)) (its : List (IRow A)) (orc : Nat → Nat → Dec) (old : Addr → Option Value) (ys : List (Ys A)) (yf : YF A) (x : Code) : LoopsOK (cfgW P tbl its orc old noLoop ys yf) x :=
  fun _ _ _ _ _ _ _ h => by cases h

/-- Told loops are right, whatever else a run's settings are. -/
def LoopsFor (P : Program) (old : Addr → Option Value) (ys : List (Ys A)) (lp : Nat → Option (St A × Ex × St A)) (x : Code) : Prop :=
  ∀ c : Cfg A, c.P = P → c.gl = (fun _ => none) → c.old = old → c.ys = ys → c.lp = lp → LoopsOK c x

theorem loopsFor_none {P : Program} {old : Addr → Option Value} {ys : List (Ys A)} {x : Code} : LoopsFor P old ys noLoop x :=
  fun c _ _ _ _ hlp _ _ i pre e post _ h => by rw [hlp] at h; cases h

/-- Ahead of all: no memory of ours. -/
theorem mrel_nil (c : Cfg A) (W : World) (hgl : c.gl = fun _ => none) (hold : c.old = W.cell?) : MRel c (fun _ => False) W Adr.nil [] W :=
  ⟨fun i blk hi => (by simp [nth] at hi), fun i j bi bj b li => (by simp [nth] at li), fun i b hi => (by cases hi), Ext.refl _ _, fun g i hi => (by rw [hgl] at hi; cases hi), fun a v e => (by rw [hold] at e; exact ⟨e, cell?_lt e, fun h => h⟩), fun k hk => hk.elim,
    fun a v hk => hk.elim, fun i blk v n l hi => (by simp [nth] at hi), fun i b hv => (by obtain ⟨blk, v, n, l, cap, h, _⟩ := hv; simp [nth] at h)⟩

/-- A run on shadows, whatever the arguments, gives a contract; loops may be told, functions ranged over. -/
theorem computes_of_runW {P : Program} {tbl : List (Row A)} (ht : TblOK P tbl) {its : List (IRow A)} (hi : ITblOK P its) {Γ R : Type} [Args A Γ] [Ret A R] {g : FuncId} {fn : Func} {f : Γ → R} (hf : P.funcs[g]? = some fn)
    (hn : (fn.name == "runtime.NumGoroutine") = false) (hb : fn.body.isNone = false) (fuel : Nat)
    (h : ∀ (gh : Args.G A Γ) (x : Γ) (W : World), Args.good W gh x → ∃ orc lp y vc, (run (cfgW P tbl its orc W.cell? lp [] noYield) fuel fn (Args.tvs gh x) []).map retOf = some (some y, vc) ∧ All vc ∧ y = f x ∧
      ∀ body, fn.body = some body → LoopsFor P W.cell? [] lp body) : Computes A P g f := by
  intro gh x W hg
  obtain ⟨orc, lp, y, vc, h1, h2, h3, h4⟩ := h gh x W hg
  refine .inr ⟨callFunc_enter hf hn hb _ W, ?_⟩
  cases hr : run (cfgW P tbl its orc W.cell? lp [] noYield) fuel fn (Args.tvs gh x) [] with
  | none => rw [hr] at h1; cases h1
  | some z =>
    obtain ⟨res, m', vc'⟩ := z
    rw [hr] at h1
    obtain ⟨v1, h5, rfl⟩ := retOf_some (Option.some.inj h1)
    have h2' := h2.mem
    have := run_sound (cfgOK0 ht hi orc W.cell? lp) rfl (c := cfgW P tbl its orc W.cell? lp [] noYield) hf (fun body hbd => h4 body hbd _ rfl rfl rfl rfl rfl) hr (fun p hp => h2' p (List.mem_append_right _ hp)) (X := fun _ => False) (W0 := W) (W := W) (β := Adr.nil) (mrel_nil _ W rfl rfl) (fun _ _ => ⟨rfl, fun _ => rfl⟩) (Args.is _ hg)
    refine this.mono ?_
    rintro e W' ⟨v, rfl, β', _, hv, hm', _⟩
    exact ⟨v, rfl, by rw [← h3]; exact Ret.ok h5 (fun p hp => h2' p (List.mem_append_left _ hp)) hm' hv, hm'.ext⟩

/-- The same where no loop is told, and no memory but ours is looked at. -/
theorem computes_of_run {P : Program} {tbl : List (Row A)} (ht : TblOK P tbl) {Γ R : Type} [Args A Γ] [Ret A R] {g : FuncId} {fn : Func} {f : Γ → R} (hf : P.funcs[g]? = some fn)
    (hn : (fn.name == "runtime.NumGoroutine") = false) (hb : fn.body.isNone = false) (fuel : Nat)
    (h : ∀ (gh : Args.G A Γ) (x : Γ) (W : World), Args.good W gh x → ∃ orc y vc, (run (cfg P tbl orc W.cell?) fuel fn (Args.tvs gh x) []).map retOf = some (some y, vc) ∧ All vc ∧ y = f x) : Computes A P g f :=
  computes_of_runW ht (ITblOK.nil P) hf hn hb fuel (fun gh x W hg => by
    obtain ⟨orc, y, vc, h1, h2, h3⟩ := h gh x W hg
    exact ⟨orc, noLoop, y, vc, h1, h2, h3, fun body _ => loopsFor_none⟩)

/-- The same where nothing is asked of the oracle. -/
theorem computes_of_run0 {P : Program} {tbl : List (Row A)} (ht : TblOK P tbl) {Γ R : Type} [Args A Γ] [Ret A R] {g : FuncId} {fn : Func} {f : Γ → R} (hf : P.funcs[g]? = some fn)
    (hn : (fn.name == "runtime.NumGoroutine") = false) (hb : fn.body.isNone = false) (fuel : Nat)
    (h : ∀ (gh : Args.G A Γ) (x : Γ) (W : World), (run (cfg P tbl (fun _ _ => .keep) W.cell?) fuel fn (Args.tvs gh x) []).map retOf = some (some (f x), [])) : Computes A P g f :=
  computes_of_run ht hf hn hb fuel (fun gh x W _ => ⟨_, f x, [], h gh x W, trivial, rfl⟩)

/-- The same function under another reading of its data. -/
theorem Computes.as {P : Program} {Γ R Γ' R' : Type} [Args A Γ] [Res A R] [Args A Γ'] [Res A R'] {g : FuncId} {f : Γ → R} {f' : Γ' → R'} (h : Computes A P g f) (φ : Γ' → Γ)
    (hφ : ∀ (gh : Args.G A Γ') (x : Γ') (W : World), Args.good W gh x → ∃ gh' : Args.G A Γ, Args.good W gh' (φ x) ∧ Args.vals gh' (φ x) = Args.vals gh x) (hf : ∀ x, Res.val A (f (φ x)) = Res.val A (f' x)) : Computes A P g f' := by
  intro gh x W hg
  obtain ⟨gh', h1, h2⟩ := hφ gh x W hg
  have := h gh' (φ x) W h1
  rw [h2] at this
  exact this.mono (fun v W' hv => ⟨by have h3 : v = Res.val A (f (φ x)) := hv.1; rw [hf x] at h3; exact h3, hv.2⟩)

/-- A function whose calls are run where they stand; its told loops are right. -/
def rowInW (P : Program) (tbl : List (Row A)) (its : List (IRow A)) (orc : Nat → Nat → Dec) (lp : Nat → Option (St A × Ex × St A)) (fuel : Nat) (g : FuncId) (fn : Func) : Row A where
  g := g
  e := fun old args m =>
    match run (cfgW P tbl its orc old lp [] noYield) fuel fn args m with
    | some (res, m', vc) => some (res, some m', (∀ body, fn.body = some body → LoopsFor P old [] lp body) :: vc)
    | none => none

/-- The same where no loop is told. -/
def rowIn (P : Program) (tbl : List (Row A)) (its : List (IRow A)) (orc : Nat → Nat → Dec) (fuel : Nat) (g : FuncId) (fn : Func) : Row A where
  g := g
  e := fun old args m =>
    match run (cfgW P tbl its orc old noLoop [] noYield) fuel fn args m with
    | some (res, m', vc) => some (res, some m', vc)
    | none => none

theorem rowInW_ok {P : Program} {tbl : List (Row A)} (ht : TblOK P tbl) {its : List (IRow A)} (hi : ITblOK P its) (orc : Nat → Nat → Dec) (lp : Nat → Option (St A × Ex × St A)) (fuel : Nat) {g : FuncId} {fn : Func} (hf : P.funcs[g]? = some fn) (hn : (fn.name == "runtime.NumGoroutine") = false) (hb : fn.body.isNone = false) :
    RowOK P (rowInW P tbl its orc lp fuel g fn) := by
  intro c args m res mm vc hP he hvc X W0 W β vs hgl hm hvs
  simp only [rowInW] at he
  split at he
  · rename_i res' m' vc' hr
    simp at he
    obtain ⟨rfl, rfl, rfl⟩ := he
    intro htop
    refine .inr ⟨callFunc_enter hf hn hb _ W, ?_⟩
    have hl := hvc (∀ body, fn.body = some body → LoopsFor P c.old [] lp body) (by simp)
    refine (run_sound (cfgOK0 ht hi orc c.old lp) rfl (c := cfgW P tbl its orc c.old lp [] noYield) hf (fun body hbd => hl body hbd _ rfl rfl rfl rfl rfl) hr (fun p hp => hvc p (by simp [hp])) (MRel.like (c := c) (c' := cfgW P tbl its orc c.old lp [] noYield) hP.symm hgl.symm rfl hm) htop hvs).mono ?_
    rintro e W' ⟨v, rfl, β', h1, h2, h3, h4, h5⟩
    exact ⟨v, rfl, β', h1, h2, MRel.like (c := cfgW P tbl its orc c.old lp [] noYield) (c' := c) hP hgl rfl h3, h4, h5⟩
  · cases he

theorem rowIn_ok {P : Program} {tbl : List (Row A)} (ht : TblOK P tbl) {its : List (IRow A)} (hi : ITblOK P its) (orc : Nat → Nat → Dec) (fuel : Nat) {g : FuncId} {fn : Func} (hf : P.funcs[g]? = some fn) (hn : (fn.name == "runtime.NumGoroutine") = false) (hb : fn.body.isNone = false) :
    RowOK P (rowIn P tbl its orc fuel g fn) := by
  intro c args m res mm vc hP he hvc X W0 W β vs hgl hm hvs
  refine rowInW_ok ht hi orc noLoop fuel hf hn hb c args m res mm ((∀ body, fn.body = some body → LoopsFor (A := A) P c.old [] noLoop body) :: vc) hP ?_ ?_ X W0 W β vs hgl hm hvs
  · simp only [rowIn] at he
    simp only [rowInW]
    split at he
    · simp at he
      obtain ⟨rfl, rfl, rfl⟩ := he
      rfl
    · cases he
  · intro p hp
    rcases List.mem_cons.1 hp with rfl | hp
    · exact fun body _ => loopsFor_none
    · exact hvc p hp

/-- A call that leaves the blocks that there are as they are, which is asked for. -/
def Row.kept (r : Row A) : Row A where
  g := r.g
  e := fun old args m =>
    match r.e old args m with
    | some (res, some m', vc) => some (res, some (m ++ m'.drop m.length), (m'.take m.length = m) :: vc)
    | some (res, none, vc) => some (res, none, vc)
    | none => none
  adds := true
  adds_ok := by
    intro _ old args m res m' vc h b hb
    split at h
    · simp only [Option.some.injEq, Prod.mk.injEq] at h
      obtain ⟨_, rfl, _⟩ := h
      exact nth_append_lt hb
    · simp at h
    · cases h
theorem Row.kept_ok {P : Program} {r : Row A} (h : RowOK P r) : RowOK P r.kept := by
  intro c args m res mm vc hP he hvc X W0 W β vs hgl hm hvs
  simp only [Row.kept] at he
  split at he
  · rename_i res' m' vc' hr
    simp only [Option.some.injEq, Prod.mk.injEq] at he
    obtain ⟨rfl, rfl, rfl⟩ := he
    have e : m'.take m.length = m := hvc _ (by simp)
    have e2 : m ++ m'.drop m.length = m' := by
      have := List.take_append_drop m.length m'
      rw [e] at this
      exact this
    rw [e2]
    exact h c args m res' (some m') vc' hP hr (fun p hp => hvc p (by simp [hp])) X W0 W β vs hgl hm hvs
  · rename_i res' vc' hr
    simp only [Option.some.injEq, Prod.mk.injEq] at he
    obtain ⟨rfl, rfl, rfl⟩ := he
    exact h c args m res' none vc' hP hr hvc X W0 W β vs hgl hm hvs
  · cases he
/-- A function that is ranged over, run where it stands; its told loops are right. -/
def iterW (P : Program) (tbl : List (Row A)) (its : List (IRow A)) (orc : Nat → Nat → Dec) (lp : Nat → Option (St A × Ex × St A)) (fuel : Nat) (g : FuncId) (fn : Func) : IRow A where
  g := g
  e := fun old ys yf args _ m pd =>
    match runP (cfgW P tbl its orc old lp ys yf) fuel fn args m pd with
    | some (_, m', pd', vc) => some (m', pd', (∀ body, fn.body = some body → LoopsFor P old ys lp body) :: vc)
    | none => none

/-- The same where no loop is told. -/
def iter (P : Program) (tbl : List (Row A)) (its : List (IRow A)) (orc : Nat → Nat → Dec) (fuel : Nat) (g : FuncId) (fn : Func) : IRow A where
  g := g
  e := fun old ys yf args _ m pd =>
    match runP (cfgW P tbl its orc old noLoop ys yf) fuel fn args m pd with
    | some (_, m', pd', vc) => some (m', pd', vc)
    | none => none

theorem iterW_ok {P : Program} {tbl : List (Row A)} (ht : TblOK P tbl) {its : List (IRow A)} (hi : ITblOK P its) (orc : Nat → Nat → Dec) (lp : Nat → Option (St A × Ex × St A)) (fuel : Nat) {g : FuncId} {fn : Func} (hf : P.funcs[g]? = some fn) (hn : (fn.name == "runtime.NumGoroutine") = false) (hb : fn.body.isNone = false) :
    IRowOK P (iterW P tbl its orc lp fuel g fn) := by
  intro old ys yf args rd m pd m' pd' vc he hvc c1 e1 e2 e3 e4 e5 hyok X W0 W β vs hm htop hy hvs
  refine ⟨fun args W => callFunc_enter hf hn hb args W, ?_⟩
  simp only [iterW] at he
  split at he
  · rename_i v m2 pd2 vc2 hr
    simp at he
    obtain ⟨rfl, rfl, rfl⟩ := he
    have hl := hvc (∀ body, fn.body = some body → LoopsFor P old ys lp body) (by simp)
    have hyf : YOK (cfgW P tbl its orc old lp ys yf) := by
      intro i args rd m pd b m' pd' vc h hvc X W0 W β vs hm htop hy hvs l hl
      have h' : c1.yf i args rd m pd = some (b, m', pd', vc) := by rw [e5]; exact h
      have := hyok i args rd m pd b m' pd' vc h' hvc X W0 W β vs (hm.like (by rw [e1]; rfl) (by rw [e2]; rfl) (by rw [e3]; rfl)) htop (by rw [e4]; exact hy) hvs l hl
      obtain ⟨rec, k1, k2, k3⟩ := this
      refine ⟨rec, k1, k2, fun r n => ?_⟩
      have k4 := k3 r n
      rw [e1] at k4
      refine k4.mono ?_
      rintro e W' ⟨j1, β', j2, j3, j4, j5, j6⟩
      rw [e4] at j5
      refine ⟨j1, β', j2, j3.like (by rw [e1]; rfl) (by rw [e2]; rfl) (by rw [e3]; rfl), j4, j5, fun k o hk ho hs => j6 k o hk ho (by rw [e4]; exact hs)⟩
    have hcfg : CfgOK (cfgW P tbl its orc old lp ys yf) := ⟨addsOK tbl its orc old lp ys yf, callsOK ht its orc old lp ys yf, hyf, (cfgOK0 ht hi orc old lp).its⟩
    refine (runP_sound hcfg (c := cfgW P tbl its orc old lp ys yf) hf (fun body hbd => hl body hbd _ rfl rfl rfl rfl rfl) hr (fun p hp => hvc p (by simp [hp])) (hm.like (by rw [e1]; rfl) (by rw [e2]; rfl) (by rw [e3]; rfl)) htop hy hvs).mono ?_
    rintro e W' ⟨v, rfl, β', h1, _, h3, h4, h5, _⟩
    exact ⟨⟨v, rfl⟩, β', h1, h3.like (by rw [e1]; rfl) (by rw [e2]; rfl) (by rw [e3]; rfl), h4, h5⟩
  · cases he

theorem iter_ok {P : Program} {tbl : List (Row A)} (ht : TblOK P tbl) {its : List (IRow A)} (hi : ITblOK P its) (orc : Nat → Nat → Dec) (fuel : Nat) {g : FuncId} {fn : Func} (hf : P.funcs[g]? = some fn) (hn : (fn.name == "runtime.NumGoroutine") = false) (hb : fn.body.isNone = false) :
    IRowOK P (iter P tbl its orc fuel g fn) := by
  intro old ys yf args rd m pd m' pd' vc he hvc
  refine iterW_ok ht hi orc noLoop fuel hf hn hb old ys yf args rd m pd m' pd' ((∀ body, fn.body = some body → LoopsFor (A := A) P old ys noLoop body) :: vc) ?_ ?_
  · simp only [iter] at he
    simp only [iterW]
    split at he
    · simp at he
      obtain ⟨rfl, rfl, rfl⟩ := he
      rfl
    · cases he
  · intro p hp
    rcases List.mem_cons.1 hp with rfl | hp
    · exact fun body _ => loopsFor_none
    · exact hvc p hp

end

/-! ### Data -/

section
variable {B : Type} [Big B]

instance : Rep (At B) UInt64 where
  agg := false
  shw x := [.a (.u64 x)]
  vals x := [.int .u64 x.toNat]
  parse
    | [.a (.u64 x)] => some x
    | [.a (.cy x)] => some (cond x 1 0)
    | [.v (.int .u64 (.ofNat n))] => if n < 18446744073709551616 then some (UInt64.ofNat n) else none
    | _ => none
  is β x := LIs.of_single rfl
  only := by
    rintro β x vs ⟨u, y, h1, h2, rfl⟩
    obtain rfl : y = [] := h2
    have h3 : u = [.int .u64 x.toNat] := h1
    simp [h3]
  ok := by
    intro β l x vs h e
    split at h
    · obtain ⟨u, y, h1, h2, rfl⟩ := e
      obtain rfl : y = [] := h2
      simp at h; subst h
      have h3 : u = _ := h1
      simp [h3]
      rfl
    · obtain ⟨u, y, h1, h2, rfl⟩ := e
      obtain rfl : y = [] := h2
      rename_i b
      simp at h; subst h
      have h3 : u = [.int .u64 (cond b 1 0)] := h1
      rw [h3]
      cases b <;> rfl
    · obtain ⟨u, y, h1, h2, rfl⟩ := e
      obtain rfl : y = [] := h2
      split at h
      · rename_i n hn
        simp at h; subst h
        obtain ⟨rfl, _⟩ := h1
        simp [UInt64.toNat_ofNat_of_lt' hn]
      · cases h
    · cases h
  single _ x := ⟨_, rfl⟩

instance : Rep (At B) UInt8 where
  agg := false
  shw x := [.a (.u8 x)]
  vals x := [.int .u8 x.toNat]
  parse
    | [.a (.u8 x)] => some x
    | [.v (.int .u8 (.ofNat n))] => if n < 256 then some (UInt8.ofNat n) else none
    | _ => none
  is β x := LIs.of_single rfl
  only := by
    rintro β x vs ⟨u, y, h1, h2, rfl⟩
    obtain rfl : y = [] := h2
    have h3 : u = [.int .u8 x.toNat] := h1
    simp [h3]
  ok := by
    intro β l x vs h e
    split at h
    · obtain ⟨u, y, h1, h2, rfl⟩ := e
      obtain rfl : y = [] := h2
      simp at h; subst h
      have h3 : u = _ := h1
      simp [h3]
      rfl
    · obtain ⟨u, y, h1, h2, rfl⟩ := e
      obtain rfl : y = [] := h2
      split at h
      · rename_i n hn
        simp at h; subst h
        obtain ⟨rfl, _⟩ := h1
        simp [UInt8.toNat_ofNat_of_lt' hn]
      · cases h
    · cases h
  single _ x := ⟨_, rfl⟩

instance : Rep (At B) UInt32 where
  agg := false
  shw x := [.a (.u32 x)]
  vals x := [.int .u32 x.toNat]
  parse
    | [.a (.u32 x)] => some x
    | [.v (.int .u32 (.ofNat n))] => if n < 4294967296 then some (UInt32.ofNat n) else none
    | _ => none
  is β x := LIs.of_single rfl
  only := by
    rintro β x vs ⟨u, y, h1, h2, rfl⟩
    obtain rfl : y = [] := h2
    have h3 : u = [.int .u32 x.toNat] := h1
    simp [h3]
  ok := by
    intro β l x vs h e
    split at h
    · obtain ⟨u, y, h1, h2, rfl⟩ := e
      obtain rfl : y = [] := h2
      simp at h; subst h
      have h3 : u = _ := h1
      simp [h3]
      rfl
    · obtain ⟨u, y, h1, h2, rfl⟩ := e
      obtain rfl : y = [] := h2
      split at h
      · rename_i n hn
        simp at h; subst h
        obtain ⟨rfl, _⟩ := h1
        simp [UInt32.toNat_ofNat_of_lt' hn]
      · cases h
    · cases h
  single _ x := ⟨_, rfl⟩

/-- A carry: 0 or 1. -/
structure Cy where
  on : Bool

instance : Rep (At B) Cy where
  agg := false
  shw x := [.a (.cy x.on)]
  vals x := [.int .u64 (cond x.on 1 0)]
  parse
    | [.a (.cy x)] => some ⟨x⟩
    | [.v (.int .u64 (.ofNat n))] => if n = 0 then some ⟨false⟩ else if n = 1 then some ⟨true⟩ else none
    | _ => none
  is β x := LIs.of_single rfl
  only := by
    rintro β x vs ⟨u, y, h1, h2, rfl⟩
    obtain rfl : y = [] := h2
    have h3 : u = [.int .u64 (cond x.on 1 0)] := h1
    simp [h3]
  ok := by
    intro β l x vs h e
    split at h
    · obtain ⟨u, y, h1, h2, rfl⟩ := e
      obtain rfl : y = [] := h2
      simp at h; subst h
      have h3 : u = _ := h1
      simp [h3]
      rfl
    · obtain ⟨u, y, h1, h2, rfl⟩ := e
      obtain rfl : y = [] := h2
      split at h
      · rename_i n hn
        simp at h; subst h; subst hn
        obtain ⟨rfl, _⟩ := h1
        rfl
      · split at h
        · rename_i n _ hn
          simp at h; subst h; subst hn
          obtain ⟨rfl, _⟩ := h1
          rfl
        · cases h
    · cases h
  single _ x := ⟨_, rfl⟩

instance : Rep (At B) Bool where
  agg := false
  shw x := [.b x]
  vals x := [.bool x]
  parse
    | [.b x] => some x
    | [.v (.bool x)] => some x
    | _ => none
  is β x := LIs.of_single rfl
  only := by
    rintro β x vs ⟨u, y, h1, h2, rfl⟩
    obtain rfl : y = [] := h2
    have h3 : u = [.bool x] := h1
    simp [h3]
  ok := by
    intro β l x vs h e
    split at h
    · obtain ⟨u, y, h1, h2, rfl⟩ := e
      obtain rfl : y = [] := h2
      simp at h; subst h
      have h3 : u = _ := h1
      simp [h3]
    · obtain ⟨u, y, h1, h2, rfl⟩ := e
      obtain rfl : y = [] := h2
      simp at h; subst h
      obtain ⟨rfl, _⟩ := h1
      simp
    · cases h
  single _ x := ⟨_, rfl⟩

instance : Rep (At B) Int where
  agg := false
  shw x := [.n .i64 x]
  vals x := [.int .i64 x]
  parse
    | [.n .i64 x] => some x
    | [.v (.int .i64 x)] => some x
    | _ => none
  is β x := LIs.of_single rfl
  only := by
    rintro β x vs ⟨u, y, h1, h2, rfl⟩
    obtain rfl : y = [] := h2
    have h3 : u = [.int .i64 x] := h1
    simp [h3]
  ok := by
    intro β l x vs h e
    split at h
    · obtain ⟨u, y, h1, h2, rfl⟩ := e
      obtain rfl : y = [] := h2
      simp at h; subst h
      have h3 : u = _ := h1
      simp [h3]
    · obtain ⟨u, y, h1, h2, rfl⟩ := e
      obtain rfl : y = [] := h2
      simp at h; subst h
      obtain ⟨rfl, _⟩ := h1
      simp
    · cases h
  single _ x := ⟨_, rfl⟩
end

section
variable {A : Type} [Atom A]

/-- Two behind one another: a struct's parts, an array's. The first one's number of cells is told. -/
class Sized (A : Type) [Atom A] (T : Type) [Rep A T] where
  size : Nat
  len : ∀ x : T, (Rep.vals A x).length = size

def pairParse {S T : Type} [Rep A S] [Rep A T] [Sized A S] (l : List (SV A)) : Option (S × T) :=
  match splitC l (Sized.size A S) with
  | some (x, y) =>
    match Rep.parse x, Rep.parse y with
    | some a, some b => some (a, b)
    | _, _ => none
  | none => none

theorem LIs.split {β : Adr} : ∀ {l r : List (SV A)} {vs}, LIs β (l ++ r) vs → ∃ x y, LIs β l x ∧ LIs β r y ∧ vs = x ++ y
  | [], r, vs, h => ⟨[], vs, rfl, h, rfl⟩
  | s :: l, r, vs, ⟨x, y, h1, h2, e⟩ => by
    obtain ⟨u, w, h3, h4, rfl⟩ := LIs.split h2
    exact ⟨x ++ u, w, ⟨x, u, h1, h3, rfl⟩, h4, by rw [e, List.append_assoc]⟩

instance {S T : Type} [Rep A S] [Rep A T] [Sized A S] : Rep A (S × T) where
  agg := true
  shw x := Rep.shw x.1 ++ Rep.shw x.2
  vals x := Rep.vals A x.1 ++ Rep.vals A x.2
  parse := pairParse
  is β x := (Rep.is β x.1).append (Rep.is β x.2)
  only := by
    intro β x vs h
    obtain ⟨u, w, h1, h2, rfl⟩ := LIs.split h
    rw [Rep.only h1, Rep.only h2]
  ok := by
    intro β l x vs h e
    unfold pairParse at h
    split at h
    · rename_i u w hs
      split at h
      · rename_i a b ha hb
        simp at h; subst h
        obtain ⟨h1, h2, _⟩ := splitC_is e hs
        have e1 := Rep.ok ha h1
        have e2 := Rep.ok hb h2
        simp only
        rw [← e1, ← e2, List.take_append_drop]
      · cases h
    · cases h
  single h := by cases h

instance {S T : Type} [Rep A S] [Rep A T] [Sized A S] [Sized A T] : Sized A (S × T) where
  size := Sized.size A S + Sized.size A T
  len x := by
    show (Rep.vals A x.1 ++ Rep.vals A x.2).length = _
    rw [List.length_append, Sized.len, Sized.len]
end

section
variable {B : Type} [Big B]
instance : Sized (At B) UInt64 := ⟨1, fun _ => rfl⟩
instance : Sized (At B) UInt32 := ⟨1, fun _ => rfl⟩
instance : Sized (At B) UInt8 := ⟨1, fun _ => rfl⟩
instance : Sized (At B) Bool := ⟨1, fun _ => rfl⟩
instance : Sized (At B) Int := ⟨1, fun _ => rfl⟩
end
end Go.Sh

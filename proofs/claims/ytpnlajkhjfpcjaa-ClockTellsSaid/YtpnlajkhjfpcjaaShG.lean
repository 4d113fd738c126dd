/- A region that draws its order: the theorem. -/
import Derived.Test.YtpnlajkhjfpcjaaShF
namespace Go.Sh
open Go.RowKit

/-! ### What the Bool over a region says -/

theorem dsts_mem : ∀ {l : List Oper} {k i : Nat} {o : Oper} {d : Nat}, l[i]? = some o → o.dst = some d → (d, k + i) ∈ dsts l k
  | [], _, _, _, _, h, _ => by simp at h
  | o :: l, k, 0, o', d, h, hd => by
    simp at h; subst h
    simp [dsts, hd]
  | o :: l, k, i + 1, o', d, h, hd => by
    simp at h
    have ih := dsts_mem (k := k + 1) h hd
    rw [show k + 1 + i = k + (i + 1) by omega] at ih
    unfold dsts
    split
    · exact List.mem_cons_of_mem _ ih
    · exact ih

theorem dsts_apart : ∀ {l : List Oper} {k i j : Nat} {oi oj : Oper} {d : Nat}, pairsApart (dsts l k) = true → l[i]? = some oi → l[j]? = some oj → oi.dst = some d → oj.dst = some d → i = j
  | [], _, _, _, _, _, _, _, h, _, _, _ => by simp at h
  | o :: l, k, 0, 0, _, _, _, _, _, _, _, _ => rfl
  | o :: l, k, 0, j + 1, oi, oj, d, h, h1, h2, h3, h4 => by
    simp at h1 h2
    subst h1
    simp only [dsts, h3, pairsApart, Bool.and_eq_true] at h
    have := List.all_eq_true.1 h.1 (d, k + 1 + j) (dsts_mem h2 h4)
    simp at this
  | o :: l, k, i + 1, 0, oi, oj, d, h, h1, h2, h3, h4 => by
    simp at h1 h2
    subst h2
    simp only [dsts, h4, pairsApart, Bool.and_eq_true] at h
    have := List.all_eq_true.1 h.1 (d, k + 1 + i) (dsts_mem h1 h3)
    simp at this
  | o :: l, k, i + 1, j + 1, oi, oj, d, h, h1, h2, h3, h4 => by
    simp at h1 h2
    have h' : pairsApart (dsts l (k + 1)) = true := by
      unfold dsts at h
      split at h
      · simp only [pairsApart, Bool.and_eq_true] at h; exact h.2
      · exact h
    rw [dsts_apart h' h1 h2 h3 h4]

theorem readsAll_at {ops : List Oper} {ds : List (Nat × Nat)} : ∀ {l : List Oper} {k i : Nat} {o : Oper}, readsAll ops ds l k = true → l[i]? = some o → readsOK ops ds (k + i) o = true
  | [], _, _, _, _, h => by simp at h
  | o :: l, k, 0, o', h, h1 => by
    simp at h1; subst h1
    simp only [readsAll, Bool.and_eq_true] at h
    exact h.1
  | o :: l, k, i + 1, o', h, h1 => by
    simp at h1
    simp only [readsAll, Bool.and_eq_true] at h
    have := readsAll_at h.2 h1
    rw [show k + 1 + i = k + (i + 1) by omega] at this
    exact this

theorem edgesBack_at : ∀ {l : List Oper} {k i : Nat} {o : Oper}, edgesBack l k = true → l[i]? = some o → ∀ e ∈ o.after, e.on < k + i
  | [], _, _, _, _, h => by simp at h
  | o :: l, k, 0, o', h, h1 => by
    simp at h1; subst h1
    simp only [edgesBack, Bool.and_eq_true] at h
    intro e he
    have := List.all_eq_true.1 h.1 e (by simpa using he)
    simpa using this
  | o :: l, k, i + 1, o', h, h1 => by
    simp at h1
    simp only [edgesBack, Bool.and_eq_true] at h
    have := edgesBack_at h.2 h1
    rw [show k + 1 + i = k + (i + 1) by omega] at this
    exact this

structure DrawOK (L : List Oper) (n : Nat) : Prop where
  dst : ∀ (i : Nat) (o : Oper), i < n → L[i]? = some o → ∃ d, o.dst = some d
  apart : Apart L n
  reads : ∀ (i : Nat) (o : Oper) (x j : Nat) (oj : Oper), i < n → L[i]? = some o → x ∈ looks L o → j < n → L[j]? = some oj → oj.dst = some x → j < i ∧ waits o j = true
  back : ∀ (i : Nat) (o : Oper), L[i]? = some o → ∀ e ∈ o.after, e.on < i
  sink : n < L.length → ∀ i, i < n → ∃ (j : Nat) (o : Oper), i < j ∧ j ≤ n ∧ L[j]? = some o ∧ waits o i = true
  chain : ∀ (t : Nat) (o : Oper), n < t → L[t]? = some o → waits o (t - 1) = true

theorem drawOK_spec {L : List Oper} {n : Nat} (hn : n ≤ L.length) (h : drawOK L n = true) : DrawOK L n := by
  unfold drawOK at h
  simp only [Bool.and_eq_true, Bool.or_eq_true, decide_eq_true_eq] at h
  obtain ⟨⟨⟨⟨h1, h2⟩, h3⟩, h4⟩, h5⟩ := h
  have ht : ∀ i o, i < n → L[i]? = some o → (L.take n)[i]? = some o := fun i o hi ho => by rw [List.getElem?_take, if_pos hi]; exact ho
  refine ⟨?_, ?_, ?_, ?_, ?_, ?_⟩
  · intro i o hi ho
    have := List.all_eq_true.1 h1 o (List.mem_of_getElem? (ht i o hi ho))
    exact Option.isSome_iff_exists.1 this
  · intro i j oi oj d hi hj h6 h7 h8 h9
    exact dsts_apart h2 (ht i oi hi h6) (ht j oj hj h7) h8 h9
  · intro i o x j oj hi ho hx hj hoj hd
    have := readsAll_at h3 (ht i o hi ho)
    rw [Nat.zero_add] at this
    have h6 := List.all_eq_true.1 (List.all_eq_true.1 this x hx) (x, 0 + j) (dsts_mem (ht j oj hj hoj) hd)
    simp only [bne_self_eq_false, Bool.false_or, Bool.and_eq_true, decide_eq_true_eq, Nat.zero_add] at h6
    exact h6
  · intro i o ho e he
    have := edgesBack_at h4 ho e he
    omega
  · intro hlt i hi
    rcases h5 with h5 | h5
    · omega
    · simp only [sinks, Bool.and_eq_true] at h5
      have := List.all_eq_true.1 h5.1 i (List.mem_range.2 hi)
      obtain ⟨o, ho, hw⟩ := List.any_eq_true.1 this
      obtain ⟨k, hk⟩ := List.getElem?_of_mem ho
      rw [List.getElem?_take] at hk
      split at hk
      · rw [List.getElem?_drop] at hk
        exact ⟨i + 1 + k, o, by omega, by omega, hk, hw⟩
      · cases hk
  · intro t o htn ho
    have htl := (List.getElem?_eq_some_iff.1 ho).1
    rcases h5 with h5 | h5
    · omega
    · simp only [sinks, Bool.and_eq_true] at h5
      have := List.all_eq_true.1 h5.2 (t - n - 1) (List.mem_range.2 (by omega))
      rw [show n + (t - n - 1) + 1 = t by omega, nth_eq, ho] at this
      simp only at this
      rwa [show n + (t - n - 1) = t - 1 by omega] at this

theorem waits_edge {o : Oper} {j : Nat} (h : waits o j = true) : ∃ e ∈ o.after, Region.binds .any e = true ∧ e.on = j := by
  obtain ⟨e, he, hb⟩ := List.any_eq_true.1 h
  simp only [Bool.and_eq_true, beq_iff_eq] at hb
  exact ⟨e, by simpa using he, hb.1, hb.2⟩

theorem getD_both {listed : Array Bool} {i : Nat} (h : listed.getD i true = false) : listed.getD i false = false := by
  rcases Nat.lt_or_ge i listed.size with h' | h'
  · simp [h'] at h ⊢; exact h
  · simp [Array.getElem?_eq_none h'] at h

theorem getD_in {listed : Array Bool} {i : Nat} (hi : i < listed.size) (h : listed.getD i false = false) : listed.getD i true = false := by
  simp [hi] at h ⊢; exact h

theorem getD_set (listed : Array Bool) (i j : Nat) (hi : i < listed.size) : (listed.setIfInBounds i true).getD j false = if i = j then true else listed.getD j false := by
  by_cases e : i = j
  · subst e; simp [hi]
  · simp [Array.getD_eq_getD_getElem?, e]

theorem ready_ne {ops : Array Oper} {listed : Array Bool} (hb : ∀ (i : Nat) (o : Oper), ops[i]? = some o → ∀ e ∈ o.after, e.on < i) (hs : listed.size = ops.size) :
    ∀ i, i < ops.size → listed.getD i false = false → Region.ready .any ops listed ≠ [] := by
  intro i
  induction i using Nat.strongRecOn with
  | _ i ih =>
    intro hi hun
    by_cases hall : ∀ e ∈ ops[i].after, Region.binds .any e = true → listed.getD e.on false = true
    · have : i ∈ Region.ready .any ops listed := mem_ready.2 ⟨getD_in (by omega) hun, ops[i], by simp [hi], hall⟩
      intro h0
      rw [h0] at this
      cases this
    · simp only [Classical.not_forall] at hall
      obtain ⟨e, he, _, hl⟩ := hall
      have hlt := hb i ops[i] (by simp [hi]) e he
      exact ih e.on hlt (by omega) (by simpa using hl)

section
variable {A : Type} [Atom A]

/-- Operation i of the tail (or of a region in its order), as it comes up. -/
theorem execOp_step {c : Cfg A} (hc : CallsOK c) {X : Nat → Prop} {W0 : World} {ops : Array Oper} {r : Option Nat} {n : Nat} {Q : Exit → Act → World → Prop} {K : Act → World → Prop} {i : Nat} {o : Oper} {rest : List Oper}
    {st st' : St A} {β : Adr} {a : Act} {W : World} (hi : ops[i]? = some o) (h : execOps c ops.toList (o :: rest) st = some st') (hvc : ∀ p ∈ st'.vc, p) (hr : Rel c X W0 β st a W)
    (hK : ∀ st1 β' a' W', Adr.le β β' → Rel c X W0 β' st1 a' W' → execOps c ops.toList rest st1 = some st' → K a' W') : wpOpIn (Fr r) n c.P ops Q i K a W := by
  unfold wpOpIn
  simp only [hi]
  simp only [execOps] at h
  split at h
  · rename_i hw
    split at h
    · rename_i st1 h1
      have hv1 : ∀ p ∈ st1.vc, p := fun p hp => hvc p (execOps_vc h p hp)
      have hwant := wants_is (ops := ops) hr.t hw
      rw [if_pos hwant]
      refine exec1_sound (r := r) (n := n) hc hr h1 hv1 K Q ?_
      rintro v W' ⟨β', hle, hr'⟩
      exact hK st1 β' _ _ hle hr' h
    · cases h
  · rename_i hw
    have hwant := wants_is (ops := ops) hr.t hw
    rw [if_neg (by rw [hwant]; simp)]
    refine ⟨fun _ _ => trivial, hK _ β _ _ (Adr.le_refl β) ⟨?_, ?_, ?_⟩ h⟩
    · exact TRel.put hr.t (undefT_is β)
    · rw [putT_m]; exact hr.m
    · rw [putT_m]; exact hr.top
  · cases h

theorem draw_tail {c : Cfg A} (hc : CallsOK c) {X : Nat → Prop} {W0 : World} {ops : Array Oper} {r : Option Nat} {n0 n : Nat} {Q : Exit → Act → World → Prop} (hok : DrawOK ops.toList n0) {st' : St A} (hvc : ∀ p ∈ st'.vc, p) :
    ∀ (f k : Nat) (listed : Array Bool) (st : St A) (β : Adr) (a : Act) (W : World), ops.size - k ≤ f → n0 ≤ k → k ≤ ops.size → listed.size = ops.size → (∀ j, j < ops.size → listed.getD j false = decide (j < k)) →
      execOps c ops.toList (ops.toList.drop k) st = some st' → Rel c X W0 β st a W → (∀ β' a' W', Adr.le β β' → Rel c X W0 β' st' a' W' → Q .normal a' W') →
      wpAnyIn (Fr r) n c.P .any ops Q f listed a W := by
  have back : ∀ (i : Nat) (o : Oper), ops[i]? = some o → ∀ e ∈ o.after, e.on < i := fun i o h => hok.back i o (by simpa using h)
  have full : ∀ (k : Nat) (listed : Array Bool), ops.size ≤ k → listed.size = ops.size → (∀ j, j < ops.size → listed.getD j false = decide (j < k)) → Region.ready .any ops listed = [] := by
    intro k listed hk hs hl
    apply List.eq_nil_iff_forall_not_mem.2
    intro j hj
    obtain ⟨h1, o, ho, _⟩ := mem_ready.1 hj
    have hjs : j < ops.size := (Array.getElem?_eq_some_iff.1 ho).1
    have h2 := getD_both h1
    rw [hl j hjs] at h2
    simp at h2
    omega
  intro f
  induction f with
  | zero =>
    intro k listed st β a W hf hnk hk hs hl h hr hQ
    have : ops.toList.drop k = [] := List.drop_of_length_le (by simp; omega)
    rw [this] at h
    simp [execOps] at h
    subst h
    exact ⟨full k listed (by omega) hs hl, hQ β a W (Adr.le_refl β) hr⟩
  | succ f ih =>
    intro k listed st β a W hf hnk hk hs hl h hr hQ
    by_cases hks : k < ops.size
    · have hko : ops[k]? = some ops[k] := by simp [hks]
      have hne := ready_ne back hs k hks (by rw [hl k hks]; simp)
      refine ⟨fun e => absurd e hne, fun i hi => ?_⟩
      obtain ⟨hun, o, ho, hall⟩ := mem_ready.1 hi
      have his : i < ops.size := (Array.getElem?_eq_some_iff.1 ho).1
      have hki : k ≤ i := by
        have := getD_both hun
        rw [hl i his] at this
        simpa using this
      have hik : i = k := by
        rcases Nat.lt_or_ge k i with hlt | hge
        · exfalso
          have hw := hok.chain i o (by omega) (by simpa using ho)
          obtain ⟨e, he, hb, hon⟩ := waits_edge hw
          have := hall e he hb
          rw [hon, hl (i - 1) (by omega)] at this
          simp at this
          omega
        · omega
      subst hik
      have hd : ops.toList.drop i = ops[i] :: ops.toList.drop (i + 1) := by
        rw [List.drop_eq_getElem_cons (by simpa using hks)]
        simp
      rw [hd] at h
      refine execOp_step hc hko h hvc hr (fun st1 β' a' W' hle hr' h' => ?_)
      refine ih (i + 1) _ st1 β' a' W' (by omega) (by omega) (by omega) (by simpa using hs) (fun j hj => ?_) h' hr' (fun β'' a'' W'' hle' hr'' => hQ β'' a'' W'' (Adr.le_trans hle hle') hr'')
      rw [getD_set _ _ _ (by omega), hl j hj]
      by_cases e : i = j
      · subst e; simp
      · simp only [e, if_false]
        congr 1
        simp only [eq_iff_iff]
        omega
    · have : ops.toList.drop k = [] := List.drop_of_length_le (by simp; omega)
      rw [this] at h
      simp [execOps] at h
      subst h
      have hfull := full k listed (by omega) hs hl
      exact ⟨fun _ => hQ β a W (Adr.le_refl β) hr, fun i hi => by rw [hfull] at hi; cases hi⟩

/-- In the midst of a head: what the frame and the memory are when the listed operations have come up. -/
structure Mid (c : Cfg A) (X : Nat → Prop) (W0 : World) (L : List Oper) (n : Nat) (t0 : List (TV A)) (m0 : Mem A) (T : List (TV A)) (New : Mem A) (β0 : Adr) (listed : Array Bool) (a : Act) (W : World)
    (t : List (TV A)) (m : Mem A) (β : Adr) : Prop where
  trel : TRel β t a
  mrel : MRel c X W0 β m W
  top : Top β m
  len : t.length = t0.length
  done : ∀ j o d, j < n → L[j]? = some o → o.dst = some d → listed.getD j false = true → nth t d = nth T d
  rest : ∀ x, (∀ j o, j < n → L[j]? = some o → listed.getD j false = true → o.dst ≠ some x) → nth t x = nth t0 x
  mlen : m.length = m0.length + cnt L n
  old : ∀ k, k < m0.length → nth m k = nth m0 k
  laid : ∀ j o, j < n → L[j]? = some o → isAlloc o.op = true → listed.getD j false = true → nth m (m0.length + cnt L j) = nth New (cnt L j)
  free : ∀ j o, j < n → L[j]? = some o → isAlloc o.op = true → listed.getD j false = false → nth m (m0.length + cnt L j) = some none ∧ β (m0.length + cnt L j) = none
  le : Adr.le β0 β

omit [Atom A] in
theorem ext_nth {α : Type} {l r : List α} (h : ∀ i, nth l i = nth r i) : l = r := by
  apply List.ext_getElem?
  intro i
  rw [← nth_eq, ← nth_eq, h i]

theorem draw_head {c : Cfg A} (hc : CallsOK c) {X : Nat → Prop} {W0 : World} {ops : Array Oper} {r : Option Nat} {n0 n : Nat} {Q : Exit → Act → World → Prop} (hok : DrawOK ops.toList n0) (hn0 : n0 ≤ ops.size)
    {t0 T : List (TV A)} {m0 New : Mem A} {rd : Nat} {VC : List Prop} {st' : St A} {β0 : Adr} (hvc : ∀ p ∈ st'.vc, p) (hVC : ∀ p ∈ VC, p)
    (lexT : T.length = t0.length) (lexN : New.length = cnt ops.toList n0)
    (lexR : ∀ x, (∀ j o, j < n0 → ops.toList[j]? = some o → o.dst ≠ some x) → nth T x = nth t0 x)
    (lex : ∀ i o, i < n0 → ops.toList[i]? = some o → ∃ d, o.dst = some d ∧ d < t0.length ∧ ∃ ti, ti.length = t0.length ∧
        (∀ j oj dj, j < i → ops.toList[j]? = some oj → oj.dst = some dj → nth ti dj = nth T dj) ∧
        (∀ x, (∀ j oj, j < i → ops.toList[j]? = some oj → oj.dst ≠ some x) → nth ti x = nth t0 x) ∧ HeadFact c ops.toList m0 rd T New VC i o d ti)
    (h : execOps c ops.toList (ops.toList.drop n0) ⟨T, m0 ++ New, rd, VC⟩ = some st')
    (hQ : ∀ β' a' W', Adr.le β0 β' → Rel c X W0 β' st' a' W' → Q .normal a' W') :
    ∀ (f : Nat) (U : List Nat) (listed : Array Bool) (a : Act) (W : World) (t : List (TV A)) (m : Mem A) (β : Adr), U.length + (ops.size - n0) ≤ f → listed.size = ops.size →
      (∀ j, j < n0 → listed.getD j false = false → j ∈ U) → (∀ j, n0 ≤ j → j < ops.size → listed.getD j false = false) →
      (∀ (j : Nat) (o : Oper), j < n0 → ops.toList[j]? = some o → listed.getD j false = true → ∀ e ∈ o.after, Region.binds .any e = true → listed.getD e.on false = true) →
      Mid c X W0 ops.toList n0 t0 m0 T New β0 listed a W t m β → wpAnyIn (Fr r) n c.P .any ops Q f listed a W := by
  have back : ∀ (i : Nat) (o : Oper), ops[i]? = some o → ∀ e ∈ o.after, e.on < i := fun i o h => hok.back i o (by simpa using h)
  intro f
  induction f with
  | zero =>
    intro U listed a W t m β hf hs hU htail hclosed mid
    have hu : U = [] := List.length_eq_zero_iff.1 (by omega)
    subst hu
    have hall : ∀ j, j < n0 → listed.getD j false = true := fun j hj => by
      cases e : listed.getD j false with
      | true => rfl
      | false => exact absurd (hU j hj e) (by simp)
    -- all of it is the head, and all has come up
    have et : t = T := ext_nth fun x => by
      by_cases hx : ∃ j o, j < n0 ∧ ops.toList[j]? = some o ∧ o.dst = some x
      · obtain ⟨j, o, h1, h2, h3⟩ := hx
        exact mid.done j o x h1 h2 h3 (hall j h1)
      · have hx' : ∀ j o, j < n0 → ops.toList[j]? = some o → o.dst ≠ some x := fun j o h1 h2 h3 => hx ⟨j, o, h1, h2, h3⟩
        rw [mid.rest x (fun j o h1 h2 _ => hx' j o h1 h2), lexR x hx']
    have em : m = m0 ++ New := ext_nth fun k => by
      rcases Nat.lt_or_ge k m0.length with hk | hk
      · rw [mid.old k hk, nth_append_lt hk]
      · rcases Nat.lt_or_ge k (m0.length + cnt ops.toList n0) with hk2 | hk2
        · obtain ⟨j, o, h1, h2, h3, h4⟩ := cnt_surj (l := ops.toList) (n := n0) (s := k - m0.length) (by omega)
          have := mid.laid j o h1 h2 h3 (hall j h1)
          rw [h4, show m0.length + (k - m0.length) = k by omega] at this
          rw [this, nth_eq, nth_eq, List.getElem?_append_right hk]
        · have e1 := mid.mlen
          rw [nth_eq, nth_eq, List.getElem?_eq_none (by omega), List.getElem?_eq_none (by simp; omega)]
    subst et; subst em
    refine draw_tail hc hok hvc 0 n0 listed _ β a W (by omega) (Nat.le_refl _) hn0 hs (fun j hj => ?_) h ⟨mid.trel, mid.mrel, mid.top⟩ (fun β' a' W' hle hr => hQ β' a' W' (Adr.le_trans mid.le hle) hr)
    rcases Nat.lt_or_ge j n0 with hj' | hj'
    · rw [hall j hj']; simp [hj']
    · omega
  | succ f ih =>
    intro U listed a W t m β hf hs hU htail hclosed mid
    by_cases hall : ∀ j, j < n0 → listed.getD j false = true
    · have et : t = T := ext_nth fun x => by
        by_cases hx : ∃ j o, j < n0 ∧ ops.toList[j]? = some o ∧ o.dst = some x
        · obtain ⟨j, o, h1, h2, h3⟩ := hx
          exact mid.done j o x h1 h2 h3 (hall j h1)
        · have hx' : ∀ j o, j < n0 → ops.toList[j]? = some o → o.dst ≠ some x := fun j o h1 h2 h3 => hx ⟨j, o, h1, h2, h3⟩
          rw [mid.rest x (fun j o h1 h2 _ => hx' j o h1 h2), lexR x hx']
      have em : m = m0 ++ New := ext_nth fun k => by
        rcases Nat.lt_or_ge k m0.length with hk | hk
        · rw [mid.old k hk, nth_append_lt hk]
        · rcases Nat.lt_or_ge k (m0.length + cnt ops.toList n0) with hk2 | hk2
          · obtain ⟨j, o, h1, h2, h3, h4⟩ := cnt_surj (l := ops.toList) (n := n0) (s := k - m0.length) (by omega)
            have := mid.laid j o h1 h2 h3 (hall j h1)
            rw [h4, show m0.length + (k - m0.length) = k by omega] at this
            rw [this, nth_eq, nth_eq, List.getElem?_append_right hk]
          · have e1 := mid.mlen
            rw [nth_eq, nth_eq, List.getElem?_eq_none (by omega), List.getElem?_eq_none (by simp; omega)]
      subst et; subst em
      refine draw_tail hc hok hvc (f + 1) n0 listed _ β a W (by omega) (Nat.le_refl _) hn0 hs (fun j hj => ?_) h ⟨mid.trel, mid.mrel, mid.top⟩ (fun β' a' W' hle hr => hQ β' a' W' (Adr.le_trans mid.le hle) hr)
      rcases Nat.lt_or_ge j n0 with hj' | hj'
      · rw [hall j hj']; simp [hj']
      · rw [htail j hj' hj]; simp; omega
    · have hall' : ∃ i0, i0 < n0 ∧ listed.getD i0 false = false := by
        simp only [Classical.not_forall] at hall
        obtain ⟨i0, h1, h2⟩ := hall
        exact ⟨i0, h1, by simpa using h2⟩
      obtain ⟨i0, hi0, hun0⟩ := hall'
      refine ⟨fun e => absurd e (ready_ne back hs i0 (by omega) hun0), fun i hi => ?_⟩
      obtain ⟨hun, o, ho, hedges⟩ := mem_ready.1 hi
      have his : i < ops.size := (Array.getElem?_eq_some_iff.1 ho).1
      have hoL : ops.toList[i]? = some o := by simpa using ho
      -- no operation of the tail comes up while one of the head has not
      have hin : i < n0 := by
        rcases Nat.lt_or_ge i n0 with hlt | hge
        · exact hlt
        · exfalso
          rcases Nat.lt_or_ge n0 i with hgt | hle
          · obtain ⟨e, he, hb, hon⟩ := waits_edge (hok.chain i o hgt hoL)
            have := hedges e he hb
            rw [hon, htail (i - 1) (by omega) (by omega)] at this
            cases this
          · have hin : i = n0 := by omega
            have key : ∀ dd i1, n0 - i1 = dd → i1 < n0 → listed.getD i1 false = false → False := by
              intro dd
              induction dd using Nat.strongRecOn with
              | _ dd ihd =>
                intro i1 hdd h1 h2
                obtain ⟨j, oj, g1, g2, g3, g4⟩ := hok.sink (by simpa using (by omega : n0 < ops.size)) i1 h1
                obtain ⟨e, he, hb, hon⟩ := waits_edge g4
                by_cases hjn : j = n0
                · subst hjn
                  have : oj = o := by
                    rw [← hin] at g3
                    exact Option.some.inj (g3.symm.trans hoL)
                  subst this
                  have := hedges e he hb
                  rw [hon, h2] at this
                  cases this
                · cases hlj : listed.getD j false with
                  | true =>
                    have := hclosed j oj (by omega) g3 hlj e he hb
                    rw [hon, h2] at this
                    cases this
                  | false => exact ihd (n0 - j) (by omega) j rfl (by omega) hlj
            exact key _ i0 rfl hi0 hun0
      have hunf : listed.getD i false = false := getD_both hun
      obtain ⟨d, hd, hdl, ti, e1, e2, e3, e4⟩ := lex i o hin hoL
      -- what it looks at is there
      have hlook : ∀ x ∈ looks ops.toList o, nth t x = nth ti x := by
        intro x hx
        by_cases hw : ∃ j oj, j < n0 ∧ ops.toList[j]? = some oj ∧ oj.dst = some x
        · obtain ⟨j, oj, g1, g2, g3⟩ := hw
          obtain ⟨g4, g5⟩ := hok.reads i o x j oj hin hoL hx g1 g2 g3
          obtain ⟨e, he, hb, hon⟩ := waits_edge g5
          have hlj := hedges e he hb
          rw [hon] at hlj
          rw [mid.done j oj x g1 g2 g3 hlj, e2 j oj x g4 g2 g3]
        · have hx' : ∀ j o, j < n0 → ops.toList[j]? = some o → o.dst ≠ some x := fun j o h1 h2 h3 => hw ⟨j, o, h1, h2, h3⟩
          rw [mid.rest x (fun j o h1 h2 _ => hx' j o h1 h2), e3 x (fun j oj h1 h2 => hx' j oj (by omega) h2)]
      have hopd : ∀ y ∈ o.op.operands, evO c ⟨t, m0, rd, []⟩ y = evO c ⟨ti, m0, rd, []⟩ y := by
        intro y hy
        cases y with
        | tmp x =>
          refine hlook x ?_
          unfold looks
          exact List.mem_append_left _ (List.mem_filterMap.2 ⟨.tmp x, by simpa using hy, rfl⟩)
        | _ => rfl
      have hguard : ∀ j w oj d', o.guard = some (j, w) → nth ops.toList j = some oj → oj.dst = some d' → nth t d' = nth ti d' := by
        intro j w oj d' g1 g2 g3
        refine hlook d' ?_
        unfold looks
        refine List.mem_append_right _ ?_
        rw [g1]
        simp only [g2, g3]
        simp
      have hm0 : MRel c X W0 β m0 W := ⟨fun k blk hk => mid.mrel.mem k blk (by rw [mid.old k (nth_lt hk)]; exact hk), mid.mrel.inj, mid.mrel.dom, mid.mrel.ext, mid.mrel.glob⟩
      -- what stands behind it, once its value is in its slot
      have next : ∀ (v : TV A) (u : Value) (W' : World) (m' : Mem A) (β' : Adr), Adr.le β β' → v.Is β' u → nth T d = some v → MRel c X W0 β' m' W' → Top β' m' → m'.length = m.length → (∀ k, k < m0.length → nth m' k = nth m k) →
          (∀ j o', j < n0 → ops.toList[j]? = some o' → isAlloc o'.op = true → j ≠ i → nth m' (m0.length + cnt ops.toList j) = nth m (m0.length + cnt ops.toList j) ∧ β' (m0.length + cnt ops.toList j) = β (m0.length + cnt ops.toList j)) →
          (isAlloc o.op = true → nth m' (m0.length + cnt ops.toList i) = nth New (cnt ops.toList i)) →
          wpAnyIn (Fr r) n c.P .any ops Q f (listed.setIfInBounds i true) (a.put o.dst u) W' := by
        intro v u W' m' β' hle hvu hTd hm' htop' hml hold hoth hself
        have hset : ∀ j, (listed.setIfInBounds i true).getD j false = if i = j then true else listed.getD j false := fun j => getD_set _ _ _ (by omega)
        refine ih (U.erase i) _ _ W' (setN t d v) m' β' ?_ (by simpa using hs) ?_ ?_ ?_ ?_
        · have := List.length_erase_of_mem (hU i hin hunf)
          have h0 : 0 < U.length := List.length_pos_of_mem (hU i hin hunf)
          omega
        · intro j hj hlj
          rw [hset] at hlj
          split at hlj
          · cases hlj
          · rename_i hne
            exact (List.mem_erase_of_ne (fun e => hne e.symm)).2 (hU j hj hlj)
        · intro j hj hjs
          rw [hset, if_neg (by omega)]
          exact htail j hj hjs
        · intro j oj hj hoj hlj e he hb
          rw [hset] at hlj ⊢
          split
          · rfl
          · split at hlj
            · rename_i hij
              subst hij
              have : oj = o := Option.some.inj (hoj.symm.trans hoL)
              subst this
              exact hedges e he hb
            · exact hclosed j oj hj hoj hlj e he hb
        · have ht' : TRel β' t a := ⟨mid.trel.defers, mid.trel.tmps.mono hle⟩
          refine ⟨?_, hm', htop', by rw [setN_length]; exact mid.len, ?_, ?_, by rw [hml]; exact mid.mlen, fun k hk => by rw [hold k hk, mid.old k hk], ?_, ?_, Adr.le_trans mid.le hle⟩
          · rw [hd]
            exact TRel.put (st := ⟨t, m0, rd, []⟩) (d := some d) ht' hvu
          · intro j oj dj hj hoj hdj hlj
            rw [nth_setN]
            by_cases hjd : d = dj
            · subst hjd
              rw [if_pos rfl, if_pos (by rw [mid.len]; exact hdl), hTd]
            · rw [if_neg hjd]
              rw [hset] at hlj
              split at hlj
              · rename_i hij
                subst hij
                have : oj = o := Option.some.inj (hoj.symm.trans hoL)
                subst this
                exact absurd (Option.some.inj (hd.symm.trans hdj)) hjd
              · exact mid.done j oj dj hj hoj hdj hlj
          · intro x hx
            rw [nth_setN, if_neg]
            · refine mid.rest x (fun j oj hj hoj hlj => hx j oj hj hoj ?_)
              rw [hset]
              split
              · rfl
              · exact hlj
            · intro e
              subst e
              exact hx i o hin hoL (by rw [hset, if_pos rfl]) hd
          · intro j oj hj hoj haj hlj
            by_cases hij : j = i
            · subst hij
              have : oj = o := Option.some.inj (hoj.symm.trans hoL)
              subst this
              exact hself haj
            · rw [(hoth j oj hj hoj haj hij).1]
              rw [hset, if_neg (fun e => hij e.symm)] at hlj
              exact mid.laid j oj hj hoj haj hlj
          · intro j oj hj hoj haj hlj
            rw [hset] at hlj
            split at hlj
            · cases hlj
            · rename_i hne
              rw [(hoth j oj hj hoj haj (fun e => hne e.symm)).1, (hoth j oj hj hoj haj (fun e => hne e.symm)).2]
              exact mid.free j oj hj hoj haj hlj
      unfold wpOpIn
      simp only [ho]
      rcases e4 with ⟨ty, cells, hop, hg, hz, hNew, hTd⟩ | ⟨hna, b, hw, hT, hF⟩
      · -- a new block
        have hwant : Region.wanted o (yielded ops a.tmps) = true := by simp [Region.wanted, hg]
        rw [if_pos hwant]
        have ha : isAlloc o.op = true := by rw [hop]; rfl
        obtain ⟨hfree1, hfree2⟩ := mid.free i o hin hoL ha hunf
        obtain ⟨z, hz1, hz2⟩ := run_zeroT (P := c.P) (w := W) (β := β) hz
        have hslot : m0.length + cnt ops.toList i < m.length := nth_lt hfree1
        refine yld_value (r := r) (n := n) (P := c.P) (v := .pointer (some ⟨W.heap.size, 0, none⟩)) (W := W) (W' := W.alloc (.cells z.cells ty)) (post := fun v W' => v = .pointer (some ⟨W.heap.size, 0, none⟩) ∧ W' = W.alloc (.cells z.cells ty)) (by simp [hop]) ?_ ⟨rfl, rfl⟩ _ Q ?_
        · simp [execOp, hop, Instr.alloc, hz1, newVar, newRow]
        · rintro v W' ⟨rfl, rfl⟩
          have hmm := mid.mrel.alloc (t := ty) (m' := setN m (m0.length + cnt ops.toList i) (some ⟨cells, ty, false⟩)) hfree2 hz2 (fun k blk hk => by
            rw [nth_setN] at hk
            by_cases hki : m0.length + cnt ops.toList i = k
            · rw [if_pos hki, if_pos hslot] at hk
              simp at hk
              exact .inl ⟨hki.symm, hk.symm⟩
            · rw [if_neg hki] at hk
              exact .inr ⟨fun e => hki e.symm, hk⟩)
          refine next (.val false [.p (m0.length + cnt ops.toList i) 0]) _ _ (setN m (m0.length + cnt ops.toList i) (some ⟨cells, ty, false⟩)) (β.put (m0.length + cnt ops.toList i) W.heap.size) (Adr.le_put hfree2) ?_ hTd (by simpa using hmm) ?_ (setN_length _ _ _) ?_ ?_ ?_
          · exact LIs.of_single ⟨W.heap.size, by simp [Adr.put], rfl⟩
          · intro k hk
            rw [setN_length] at hk
            unfold Adr.put
            rw [if_neg (by omega)]
            exact mid.top k hk
          · intro k hk
            rw [nth_setN, if_neg (by omega)]
          · intro j oj hj hoj haj hji
            have hne : cnt ops.toList j ≠ cnt ops.toList i := by
              rcases Nat.lt_or_ge j i with hlt | hge
              · have := cnt_lt hoj haj hlt; omega
              · have := cnt_lt hoL ha (by omega : i < j); omega
            constructor
            · rw [nth_setN, if_neg (by omega)]
            · unfold Adr.put
              rw [if_neg (by omega)]
          · intro _
            rw [nth_setN, if_pos rfl, if_pos hslot, hNew]
      · have hwt : wants ops.toList ⟨t, m0, rd, []⟩ o = some b := by
          rw [wants_congr (st := ⟨t, m0, rd, []⟩) (st' := ⟨ti, m0, rd, []⟩) hguard]; exact hw
        have hwant := wants_is (ops := ops) (st := ⟨t, m0, rd, []⟩) mid.trel hwt
        have hoth0 : ∀ j o', j < n0 → ops.toList[j]? = some o' → isAlloc o'.op = true → j ≠ i → nth m (m0.length + cnt ops.toList j) = nth m (m0.length + cnt ops.toList j) ∧ β (m0.length + cnt ops.toList j) = β (m0.length + cnt ops.toList j) := fun _ _ _ _ _ _ => ⟨rfl, rfl⟩
        cases b with
        | true =>
          rw [if_pos hwant]
          obtain ⟨v, vc2, hv, hvc2, hvc3, hTd⟩ := hT rfl
          have hvt : opV c ⟨t, m0, rd, []⟩ o.op = some (v, vc2) := by
            rw [opV_congr (st := ⟨t, m0, rd, []⟩) (st' := ⟨ti, m0, rd, []⟩) rfl hopd]; exact hv
          refine opV_sound (r := r) (n := n) hc (st := ⟨t, m0, rd, []⟩) mid.trel hm0 hvt (fun p hp => hVC p (hvc2 p hp)) _ Q ?_
          rintro u W' ⟨hu, hk⟩
          exact next _ u W' m β (Adr.le_refl β) (decT_is hu (fun p hp => hVC p (hvc3 p hp))) hTd (mid.mrel.keeps hk) mid.top rfl (fun _ _ => rfl) hoth0 (fun e => by rw [hna] at e; cases e)
        | false =>
          rw [if_neg (by rw [hwant]; simp)]
          exact ⟨fun _ _ => trivial, next undefT undef W m β (Adr.le_refl β) (undefT_is β) (hF rfl) mid.mrel mid.top rfl (fun _ _ => rfl) hoth0 (fun e => by rw [hna] at e; cases e)⟩

theorem headLen_le (l : List Oper) : headLen l ≤ l.length := by
  induction l with
  | nil => exact Nat.le_refl _
  | cons o l ih => unfold headLen; split <;> simp; omega

theorem execHead_vc {c : Cfg A} {ops : List Oper} {m0 : Mem A} {rd : Nat} : ∀ {l : List Oper} {t : List (TV A)} {new : Mem A} {vc : List Prop} {T New VC}, execHead c ops m0 rd l t new vc = some (T, New, VC) → ∀ p ∈ vc, p ∈ VC
  | [], t, new, vc, T, New, VC, h => by simp [execHead] at h; obtain ⟨_, _, rfl⟩ := h; exact fun _ h => h
  | o :: rest, t, new, vc, T, New, VC, h => by
    simp only [execHead] at h
    split at h
    · cases h
    · split at h
      · split at h
        · split at h
          · exact execHead_vc h
          · cases h
        · split at h
          · split at h
            · intro p hp; exact execHead_vc h p (by simp [hp])
            · cases h
          · exact execHead_vc h
          · cases h
      · cases h

theorem execDraw_vc {c : Cfg A} {ops : List Oper} {st st' : St A} (h : execDraw c ops st = some st') : ∀ p ∈ st.vc, p ∈ st'.vc := by
  simp only [execDraw] at h
  split at h
  · split at h
    · rename_i t new vc hh
      intro p hp
      exact execOps_vc h p (execHead_vc hh p hp)
    · cases h
  · cases h

/-- A region that draws its order. -/
theorem execDraw_sound {c : Cfg A} (hc : CallsOK c) {X : Nat → Prop} {W0 W : World} {ops : Array Oper} {id : Nat} {r : Option Nat} {n : Nat} {Q : Exit → Act → World → Prop} {st st' : St A} {β : Adr} {a : Act}
    (h : execDraw c ops.toList st = some st') (hvc : ∀ p ∈ st'.vc, p) (hr : Rel c X W0 β st a W) (hQ : ∀ β' a' W', Adr.le β β' → Rel c X W0 β' st' a' W' → Q .normal a' W') :
    (Code.region id ops true).wpIn (Fr r) n c.P Q a W := by
  unfold execDraw at h
  simp only [Bool.and_eq_true] at h
  split at h
  · rename_i hb
    split at h
    · rename_i T New VC hh
      have hle : headLen ops.toList ≤ ops.toList.length := headLen_le _
      have hok := drawOK_spec hle hb.1
      have hVC : ∀ p ∈ VC, p := fun p hp => hvc p (execOps_vc h p hp)
      obtain ⟨g1, g2, _, _, g5, g6⟩ := head_lex (c := c) (m0 := st.m) (rd := st.rd) hok.apart hle (headLen ops.toList) 0 st.t [] st.vc T New VC (by omega) (Nat.zero_le _) (by simp [cnt]) (by simpa using hh)
      refine wpIn_region_any hb.2 ?_
      have hfalse : ∀ j, (Array.replicate ops.size false).getD j false = false := by
        intro j
        rcases Nat.lt_or_ge j ops.size with h' | h'
        · simp [h']
        · simp [h']
      have hlen : ops.toList.length = ops.size := by simp
      refine draw_head hc hok (by simpa using hle) hvc hVC g1 g2 (fun x hx => g5 x (fun j o _ h2 h3 => hx j o h2 h3))
        (fun i o hi ho => by
          obtain ⟨d, k1, k2, ti, k3, k4, k5, k6⟩ := g6 i o (Nat.zero_le _) hi ho
          exact ⟨d, k1, k2, ti, k3, fun j oj dj h1 h2 h3 => k4 j oj dj (Nat.zero_le _) h1 h2 h3, fun x hx => k5 x (fun j oj _ h2 h3 => hx j oj h2 h3), k6⟩)
        h hQ ops.size (List.range (headLen ops.toList)) (Array.replicate ops.size false) a _ st.t (st.m ++ List.replicate (cnt ops.toList (headLen ops.toList)) none) β ?_ (by simp) (fun j hj _ => List.mem_range.2 hj) (fun j _ _ => hfalse j)
        (fun j _ _ _ hl => by rw [hfalse] at hl; cases hl) ?_
      · simp; omega
      · have hm1 : MRel c X W0 β st.m { W with drawn := W.drawn + 1 } := hr.m.keeps (Keeps.drew W)
        have hnone : ∀ k, st.m.length ≤ k → k < st.m.length + cnt ops.toList (headLen ops.toList) → nth (st.m ++ List.replicate (cnt ops.toList (headLen ops.toList)) none) k = some none := by
          intro k h1 h2
          rw [nth_eq, List.getElem?_append_right h1, List.getElem?_replicate, if_pos (by omega)]
        refine ⟨hr.t, ⟨fun k blk hk => ?_, hm1.inj, hm1.dom, hm1.ext, hm1.glob⟩, fun k hk => hr.top k (by simp at hk; omega), rfl, fun j _ _ _ _ _ hl => ?_, fun _ _ => rfl, by simp, fun k hk => nth_append_lt hk, fun j _ _ _ _ hl => ?_, fun j o hj ho ha _ => ⟨?_, ?_⟩, Adr.le_refl β⟩
        · have hlt := nth_lt hk
          rcases Nat.lt_or_ge k st.m.length with h' | h'
          · rw [nth_append_lt h'] at hk
            exact hm1.mem k blk hk
          · rw [hnone k h' (by simpa using hlt)] at hk
            cases hk
        · rw [hfalse] at hl; cases hl
        · rw [hfalse] at hl; cases hl
        · exact hnone _ (by omega) (by have := cnt_lt ho ha hj; omega)
        · exact hr.top _ (by omega)
    · cases h
  · cases h

end
end Go.Sh

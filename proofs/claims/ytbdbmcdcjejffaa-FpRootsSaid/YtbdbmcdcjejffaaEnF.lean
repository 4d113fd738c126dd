/- A region that draws its order comes to what its text's order comes to, whatever order is drawn. -/
import Derived.Test.YtbdbmcdcjejffaaEnE
set_option linter.unusedVariables false
set_option linter.unusedSimpArgs false
set_option linter.unusedSectionVars false
namespace Go.Sh
open Go.RowKit

section
variable {A : Type} [Atom A]

theorem fillV_congr {place : Nat → Option (Nat × Nat)} {c : Cfg A} {st st' : St A} : ∀ {parts : List (Nat × Operand)} {cells : List (SV A)}, (∀ x ∈ parts, evO c st x.2 = evO c st' x.2) →
    fillV place c st cells parts = fillV place c st' cells parts
  | [], _, _ => rfl
  | (i, x) :: rest, cells, h => by
    have h1 := h (i, x) (by simp)
    simp only at h1
    have ih := fun cells => fillV_congr (place := place) (c := c) (st := st) (st' := st') (parts := rest) (cells := cells) (fun y hy => h y (by simp [hy]))
    simp only [fillV, h1]
    split
    · split
      · split
        · split
          · exact ih _
          · rfl
        · rfl
      · rfl
    · rfl

omit [Atom A] in
theorem evL_congr {c : Cfg A} {st st' : St A} : ∀ {l : List Operand}, (∀ x ∈ l, evO c st x = evO c st' x) → evL c st l = evL c st' l
  | [], _ => rfl
  | x :: l, h => by
    simp only [evL, h x (by simp), evL_congr (l := l) (fun y hy => h y (by simp [hy]))]

omit [Atom A] in
theorem bndO_congr {c : Cfg A} {st st' : St A} {y d : Nat} {o : Option Operand} (h : ∀ x, o = some x → evO c st x = evO c st' x) : bndO c st y d o = bndO c st' y d o := by
  cases o with
  | none => rfl
  | some x => simp only [bndO, h x rfl]

theorem bndE_congr {c : Cfg A} {st st' : St A} {y d : Nat} {o : Option Operand} (h : ∀ x, o = some x → evO c st x = evO c st' x) : bndE c st y d o = bndE c st' y d o := by
  cases o with
  | none => rfl
  | some x => simp only [bndE, h x rfl]

theorem opV_congr {c : Cfg A} {st st' : St A} {op : Op} (hm : pureOp op = false → st.m = st'.m) (h : ∀ x ∈ op.operands, evO c st x = evO c st' x) : opV c st op = opV c st' op := by
  cases op with
  | move x => simp only [opV, h x (by simp [Op.operands])]
  | assign x => simp only [opV, h x (by simp [Op.operands])]
  | pick q x y =>
    have e1 := h q (by simp [Op.operands])
    have e2 := h x (by simp [Op.operands])
    have e3 := h y (by simp [Op.operands])
    simp only [opV, e1]
    split
    · split
      · rename_i b _
        cases b
        · simp only [Bool.false_eq_true, if_false, e3]
        · simp only [if_true, e2]
      · rfl
    · rfl
  | fieldAddr t x f => simp only [opV, h x (by simp [Op.operands])]
  | field t x f => simp only [opV, h x (by simp [Op.operands])]
  | indexAddr t x ix => simp only [opV, h x (by simp [Op.operands]), h ix (by simp [Op.operands])]
  | index t x ix => simp only [opV, h x (by simp [Op.operands]), h ix (by simp [Op.operands])]
  | load t x => simp only [opV, h x (by simp [Op.operands]), hm rfl]
  | extract x i => simp only [opV, h x (by simp [Op.operands])]
  | binOp o t x y yt => simp only [opV, h x (by simp [Op.operands]), h y (by simp [Op.operands])]
  | unOp o t x => simp only [opV, h x (by simp [Op.operands])]
  | convert s d x => simp only [opV, h x (by simp [Op.operands])]
  | build t parts =>
    have e := fun place cells => fillV_congr (place := place) (c := c) (st := st) (st' := st') (parts := parts.toList) (cells := cells) (fun x hx => h x.2 (by
      simp only [Op.operands, List.mem_toArray, List.mem_map]
      exact ⟨x, hx, rfl⟩))
    simp only [opV, e]
  | slice t x lo hi mx =>
    have e1 := h x (by simp [Op.operands])
    have e2 : ∀ y, lo = some y → evO c st y = evO c st' y := fun y hy => h y (by subst hy; simp [Op.operands])
    have e3 : ∀ y, hi = some y → evO c st y = evO c st' y := fun y hy => h y (by subst hy; simp [Op.operands])
    have e4 : ∀ y, mx = some y → evO c st y = evO c st' y := fun y hy => h y (by subst hy; simp [Op.operands])
    have e5 : ∀ i off len cap e, sliceV c st i off len cap e lo hi mx = sliceV c st' i off len cap e lo hi mx := by
      intro i off len cap e
      simp only [sliceV, bndO_congr e2, bndO_congr e3, bndO_congr e4]
    have e6 : ∀ ad f i len cap e, sliceE c st ad f i len cap e lo hi mx = sliceE c st' ad f i len cap e lo hi mx := by
      intro ad f i len cap e
      simp only [sliceE, bndE_congr e2, bndE_congr e3, bndE_congr e4]
    have e7 : ∀ n, boundsH c st n lo hi mx = boundsH c st' n lo hi mx := by
      intro n
      simp only [boundsH, bndE_congr e2, bndE_congr e3, bndE_congr e4]
    simp only [opV, e1, e5, e6, e7]
  | makeFunc fn first captured =>
    cases fn with
    | func g =>
      have e := evL_congr (c := c) (st := st) (st' := st') (l := captured.toList) (fun x hx => h x (by
        simp only [Op.operands, Array.mem_append]
        exact .inr (by simpa using hx)))
      simp only [opV, e]
    | _ => rfl
  | call cl =>
    obtain ⟨callee, args, ats⟩ := cl
    have e := evL_congr (c := c) (st := st) (st' := st') (l := args.toList) (fun x hx => h x (by
      simp only [Op.operands, Call.operands, Array.mem_append]
      exact .inr (by simpa using hx)))
    cases callee with
    | value f => cases f <;> first | rfl | (simp only [opV, e, hm rfl])
    | builtin b => cases b <;> first | rfl | (simp only [opV, e])
    | invoke r m => rfl
  | _ => rfl

omit [Atom A] in
theorem wants_congr {st st' : St A} {ops : List Oper} {o : Oper} (h : ∀ j w oj d, o.guard = some (j, w) → nth ops j = some oj → oj.dst = some d → nth st.t d = nth st'.t d) :
    wants ops st o = wants ops st' o := by
  unfold wants
  split
  · rfl
  · rename_i j w hg
    split
    · rename_i oj hj
      split
      · rename_i d hd
        rw [h j w oj d hg hj hd]
      · rfl
    · rfl

def isAlloc : Op → Bool
  | .alloc _ => true
  | _ => false

/-- How many new blocks are laid ahead of operation i. -/
def cnt (l : List Oper) (i : Nat) : Nat := ((l.take i).filter fun o => isAlloc o.op).length

theorem cnt_succ {l : List Oper} {i : Nat} {o : Oper} (h : l[i]? = some o) : cnt l (i + 1) = cnt l i + (if isAlloc o.op then 1 else 0) := by
  unfold cnt
  obtain ⟨hi, rfl⟩ := List.getElem?_eq_some_iff.1 h
  rw [List.take_succ_eq_append_getElem hi, List.filter_append, List.length_append]
  congr 1
  simp only [List.filter_cons, List.filter_nil]
  split <;> rfl

theorem cnt_mono {l : List Oper} {i j : Nat} (h : i ≤ j) : cnt l i ≤ cnt l j := by
  unfold cnt
  have : l.take i = (l.take j).take i := by rw [List.take_take]; congr 1; omega
  rw [this]
  exact ((List.take_sublist i (l.take j)).filter _).length_le

theorem cnt_lt {l : List Oper} {i j : Nat} {o : Oper} (h : l[i]? = some o) (ha : isAlloc o.op = true) (hij : i < j) : cnt l i < cnt l j := by
  have h1 := cnt_succ h
  rw [if_pos ha] at h1
  have := cnt_mono (l := l) (i := i + 1) (j := j) hij
  omega

theorem cnt_surj {l : List Oper} : ∀ {n s : Nat}, s < cnt l n → ∃ i o, i < n ∧ l[i]? = some o ∧ isAlloc o.op = true ∧ cnt l i = s
  | 0, s, h => by simp [cnt] at h
  | n + 1, s, h => by
    rcases Nat.lt_or_ge s (cnt l n) with h' | h'
    · obtain ⟨i, o, h1, h2⟩ := cnt_surj h'
      exact ⟨i, o, by omega, h2⟩
    · cases ho : l[n]? with
      | none =>
        have : cnt l (n + 1) = cnt l n := by
          unfold cnt
          have hlen := List.getElem?_eq_none_iff.1 ho
          rw [List.take_of_length_le (by omega), List.take_of_length_le (by omega)]
        omega
      | some o =>
        have h1 := cnt_succ ho
        split at h1
        · rename_i ha
          exact ⟨n, o, by omega, ho, ha, by omega⟩
        · omega

/-- What the head's operation i came to, in the text's order. -/
def HeadFact (c : Cfg A) (L : List Oper) (m0 : Mem A) (rd : Nat) (T : List (TV A)) (New : Mem A) (VC : List Prop) (i : Nat) (o : Oper) (d : Nat) (ti : List (TV A)) : Prop :=
  (∃ ty cells, o.op = .alloc ty ∧ o.guard = none ∧ zeroT c.P ty = some cells ∧ nth New (cnt L i) = some (some ⟨cells, ty, false⟩) ∧ nth T d = some (.val false [.p (m0.length + cnt L i) 0])) ∨
  (isAlloc o.op = false ∧ ∃ b, wants L ⟨ti, m0, rd, [], []⟩ o = some b ∧
    (b = true → ∃ v vc2, opV c ⟨ti, m0, rd, [], []⟩ o.op = some (v, vc2) ∧ (∀ p ∈ vc2, p ∈ VC) ∧ (∀ p ∈ (decT c rd (some d) v).2, p ∈ VC) ∧ nth T d = some (decT c rd (some d) v).1) ∧ (b = false → nth T d = some undefT))

/-- The slots that operations k .. n - 1 write are apart. -/
def Apart (L : List Oper) (n : Nat) : Prop := ∀ i j oi oj d, i < n → j < n → L[i]? = some oi → L[j]? = some oj → oi.dst = some d → oj.dst = some d → i = j

theorem head_lex {c : Cfg A} {L : List Oper} {m0 : Mem A} {rd n : Nat} (hap : Apart L n) (hn : n ≤ L.length) :
    ∀ (f k : Nat) (t : List (TV A)) (new : Mem A) (vc : List Prop) (T : List (TV A)) (New : Mem A) (VC : List Prop), n - k = f → k ≤ n → new.length = cnt L k →
      execHead c L m0 rd ((L.take n).drop k) t new vc = some (T, New, VC) →
      T.length = t.length ∧ New.length = cnt L n ∧ (∀ s, s < new.length → nth New s = nth new s) ∧ (∀ p ∈ vc, p ∈ VC) ∧
      (∀ x, (∀ j o, k ≤ j → j < n → L[j]? = some o → o.dst ≠ some x) → nth T x = nth t x) ∧
      (∀ i o, k ≤ i → i < n → L[i]? = some o → ∃ d, o.dst = some d ∧ d < t.length ∧ ∃ ti, ti.length = t.length ∧
        (∀ j oj dj, k ≤ j → j < i → L[j]? = some oj → oj.dst = some dj → nth ti dj = nth T dj) ∧
        (∀ x, (∀ j oj, k ≤ j → j < i → L[j]? = some oj → oj.dst ≠ some x) → nth ti x = nth t x) ∧ HeadFact c L m0 rd T New VC i o d ti) := by
  intro f
  induction f with
  | zero =>
    intro k t new vc T New VC hf hk hl h
    have : (L.take n).drop k = [] := List.drop_of_length_le (by simp; omega)
    rw [this] at h
    simp [execHead] at h
    obtain ⟨rfl, rfl, rfl⟩ := h
    obtain rfl : k = n := by omega
    exact ⟨rfl, hl, fun _ _ => rfl, fun _ h => h, fun _ _ => rfl, fun i o h1 h2 => by omega⟩
  | succ f ih =>
    intro k t new vc T New VC hf hk hl h
    have hkn : k < n := by omega
    have hkL : k < L.length := by omega
    obtain ⟨o, hok⟩ : ∃ o, L[k]? = some o := ⟨L[k], by simp [hkL]⟩
    have hdrop : (L.take n).drop k = o :: (L.take n).drop (k + 1) := by
      rw [List.drop_eq_getElem_cons (by simp; omega)]
      congr 1
      obtain ⟨_, e⟩ := List.getElem?_eq_some_iff.1 hok
      simpa using e
    rw [hdrop] at h
    simp only [execHead] at h
    split at h
    · cases h
    · rename_i d hd
      split at h
      · rename_i hdl
        -- what one step, whatever it is, hands on
        have step : ∀ (v : TV A) (new' : Mem A) (vc' : List Prop), new'.length = cnt L (k + 1) → (∀ s, s < new.length → nth new' s = nth new s) → (∀ p ∈ vc, p ∈ vc') →
            execHead c L m0 rd ((L.take n).drop (k + 1)) (setN t d v) new' vc' = some (T, New, VC) →
            ((∀ p ∈ vc', p ∈ VC) → (∀ s, s < new'.length → nth New s = nth new' s) → nth T d = some v → HeadFact c L m0 rd T New VC k o d t) →
            T.length = t.length ∧ New.length = cnt L n ∧ (∀ s, s < new.length → nth New s = nth new s) ∧ (∀ p ∈ vc, p ∈ VC) ∧
            (∀ x, (∀ j o, k ≤ j → j < n → L[j]? = some o → o.dst ≠ some x) → nth T x = nth t x) ∧
            (∀ i o, k ≤ i → i < n → L[i]? = some o → ∃ d, o.dst = some d ∧ d < t.length ∧ ∃ ti, ti.length = t.length ∧
              (∀ j oj dj, k ≤ j → j < i → L[j]? = some oj → oj.dst = some dj → nth ti dj = nth T dj) ∧
              (∀ x, (∀ j oj, k ≤ j → j < i → L[j]? = some oj → oj.dst ≠ some x) → nth ti x = nth t x) ∧ HeadFact c L m0 rd T New VC i o d ti) := by
          intro v new' vc' hnew hpre hvcs hex hfact
          obtain ⟨g1, g2, g3, g4, g5, g6⟩ := ih (k + 1) (setN t d v) new' vc' T New VC (by omega) (by omega) hnew hex
          rw [setN_length] at g1
          have hlen' : new.length ≤ new'.length := by rw [hl, hnew]; exact cnt_mono (by omega)
          have hTd : nth T d = some v := by
            rw [g5 d (fun j oj h1 h2 h3 h4 => by have := hap k j o oj d hkn h2 hok h3 hd h4; omega), nth_setN]
            simp [hdl]
          refine ⟨g1, g2, fun s hs => ?_, fun p hp => g4 p (hvcs p hp), fun x hx => ?_, fun i oi h1 h2 h3 => ?_⟩
          · rw [g3 s (by omega), hpre s hs]
          · rw [g5 x (fun j oj h1 h2 h3 => hx j oj (by omega) h2 h3), nth_setN, if_neg]
            intro e
            subst e
            exact hx k o (Nat.le_refl _) hkn hok hd
          · by_cases hik : i = k
            · subst hik
              have : oi = o := Option.some.inj (h3.symm.trans hok)
              subst this
              exact ⟨d, hd, hdl, t, rfl, fun j _ _ h1 h2 => by omega, fun _ _ => rfl, hfact g4 g3 hTd⟩
            · obtain ⟨di, e1, e2, ti, e3, e4, e5, e6⟩ := g6 i oi (by omega) h2 h3
              rw [setN_length] at e2 e3
              refine ⟨di, e1, e2, ti, e3, fun j oj dj h4 h5 h6 h7 => ?_, fun x hx => ?_, e6⟩
              · by_cases hjk : j = k
                · subst hjk
                  have : oj = o := Option.some.inj (h6.symm.trans hok)
                  subst this
                  have : dj = d := Option.some.inj (h7.symm.trans hd)
                  subst this
                  rw [hTd, e5 dj (fun j' oj' h8 h9 h10 h11 => by have := hap j j' oj oj' dj hkn (by omega) hok h10 hd h11; omega), nth_setN]
                  simp [hdl]
                · exact e4 j oj dj (by omega) h5 h6 h7
              · rw [e5 x (fun j oj h4 h5 h6 => hx j oj (by omega) h5 h6), nth_setN, if_neg]
                intro e
                subst e
                exact hx k o (Nat.le_refl _) (by omega) hok hd
        have hcs := cnt_succ hok
        split at h
        · rename_i ty hop
          split at h
          · rename_i cells hg hz
            have ha : isAlloc o.op = true := by rw [hop]; rfl
            rw [if_pos ha] at hcs
            refine step _ _ vc (by simp [hl, hcs]) (fun s hs => nth_append_lt hs) (fun _ h => h) h (fun _ k2 k3 => .inl ⟨ty, cells, hop, hg, hz, ?_, ?_⟩)
            · rw [k2 _ (by simp [hl]), ← hl, nth_snoc]
            · rw [k3, hl]
          · cases h
        · rename_i hnal
          have ha : isAlloc o.op = false := by
            cases hop : o.op <;> first | rfl | exact absurd hop (hnal _)
          rw [if_neg (by rw [ha]; simp)] at hcs
          split at h
          · rename_i hw
            split at h
            · rename_i v vc2 hv
              refine step _ _ _ (by rw [hl, hcs, Nat.add_zero]) (fun _ _ => rfl) (fun p hp => by simp [hp]) h (fun k1 _ k3 => .inr ⟨ha, true, hw, fun _ => ⟨v, vc2, hv, fun p hp => k1 p (by simp [hp]), fun p hp => k1 p (by simp [hp]), k3⟩, fun e => by cases e⟩)
            · cases h
          · rename_i hw
            refine step _ _ _ (by rw [hl, hcs, Nat.add_zero]) (fun _ _ => rfl) (fun p hp => hp) h (fun k1 _ k3 => .inr ⟨ha, false, hw, fun e => (by cases e), fun _ => k3⟩)
          · cases h
      · cases h

end
end Go.Sh

/- Slices of Bools; Bits held against one another. -/
import Derived.Test.YtaloefkkllebeaaDoorSk3
set_option linter.unusedVariables false
set_option linter.unusedSimpArgs false
set_option linter.unusedSectionVars false
namespace Go.Sh
/-- A slice's Bools. -/
structure Bo where
  l : List Bool
/-- Bools that a call leaves, and a Bool. -/
structure Wz where
  l : List Bool
  ok : Bool
def boAt (l : List Bool) : Nat → A := fun j => .bo (l.getD j false)
def boOf : A → Bool
  | .bo b => b
  | _ => false
def isBo : A → Bool
  | .bo _ => true
  | _ => false
theorem isBo_cell {x : A} {v : Value} (h : isBo x = true) (e : Atom.cells x = [v]) : v = .bool (boOf x) := by
  cases x <;> simp [isBo] at h
  rename_i b
  have k4 : [Value.bool b] = [v] := e
  simp at k4
  exact k4.symm
def cutBo (f : Nat → A) (i n : Nat) : List Bool := (List.range n).map fun j => boOf (f (i + j))
theorem cutBo_len (f : Nat → A) (i n : Nat) : (cutBo f i n).length = n := by simp [cutBo]
theorem cutBo_at (f : Nat → A) (i n j : Nat) (h : j < n) : (cutBo f i n).getD j false = boOf (f (i + j)) := by
  unfold cutBo
  rw [List.getD_eq_getElem?_getD, List.getElem?_map, List.getElem?_range h]
  rfl
def HasBools (W : World) (l : List Bool) (g : Spot) : Prop :=
  l.length ≤ g.c ∧ (g.a = none → g.c = 0) ∧ ∀ a, g.a = some a → ∀ i, i < l.length → W.cell? (a.add i) = some (.bool (l.getD i false))
def boParse : TV A → Option (Bo × List Prop)
  | .val false [.kn f i n 1] => some (⟨cutBo f i n⟩, [∀ j, j < n → isBo (f (i + j)) = true, n < 1048576])
  | .val false [.v (.slice none 0 0)] => some (⟨[]⟩, [])
  | _ => none
instance : Arg A Bo where
  G := Spot
  good W g x := HasBools W x.l g ∧ x.l.length < 1048576
  tv g x := .val false [.e g.a (boAt x.l) 0 x.l.length g.c]
  val g x := spotVal x.l.length g
  is := by
    intro W g x β h
    obtain ⟨a, c⟩ := g
    obtain ⟨⟨h1, h2, h3⟩, _⟩ := h
    cases a with
    | none =>
      have hc : c = 0 := h2 rfl
      exact LIs.of_single ⟨by simp only at h1; omega, hc, rfl⟩
    | some a => exact LIs.of_single ⟨a, fun _ => (by simp [Addr.add]), h1, rfl⟩
  parse old m t := boParse (asKn t)
  ok := by
    intro c X W0 W β m t0 x vc v h hvc hm e
    replace e := asKn_is e
    revert h e
    generalize asKn t0 = t
    intro h e
    unfold boParse at h
    split at h
    · rename_i f i n
      simp at h
      obtain ⟨rfl, rfl⟩ := h
      have h2 : ∀ j, j < n → isBo (f (i + j)) = true := hvc _ (by simp)
      have h3 : n < 1048576 := hvc (n < 1048576) (by simp)
      have e1 : knownIs β f i n 1 [v] := LIs.single (e : LIs β _ [v])
      rcases e1 with ⟨rfl, e2⟩ | ⟨p, cp, e2, hn, hk⟩
      · simp at e2
        exact ⟨⟨none, 0⟩, ⟨⟨Nat.le_refl _, fun _ => rfl, fun a ha => (by cases ha)⟩, by show (0 : Nat) < _; decide⟩, e2⟩
      · simp at e2
        refine ⟨⟨some p, cp⟩, ⟨⟨by simpa [cutBo_len] using hn, fun ha => (by cases ha), fun b hb j hj => ?_⟩, by simpa [cutBo_len] using h3⟩, by simpa [spotVal, cutBo_len] using e2⟩
        obtain rfl := Option.some.inj hb
        rw [cutBo_len] at hj
        obtain ⟨u, k1, k2⟩ := hk j (by omega)
        rw [(hm.kn _ _ k1).1, isBo_cell (h2 j hj) k2, cutBo_at _ _ _ _ hj]
    · simp at h
      obtain ⟨rfl, rfl⟩ := h
      obtain ⟨e1, _⟩ := LIs.single (e : LIs β _ [v])
      simp at e1
      exact ⟨⟨none, 0⟩, ⟨⟨Nat.le_refl _, fun _ => rfl, fun a ha => (by cases ha)⟩, by show (0 : Nat) < _; decide⟩, e1⟩
    · cases h
def FreshBools (W : World) (b : Nat) (l : List Bool) (v : Value) : Prop :=
  (l = [] ∧ v = .slice none 0 0) ∨ ∃ a c, v = .slice (some a) l.length c ∧ l.length ≤ c ∧ ∀ i, i < l.length → W.cell? (a.add i) = some (.bool (l.getD i false)) ∧ b ≤ (a.add i).block
def wzParse : TV A → Option (Wz × List Prop)
  | .tup [(false, [.gr f _ _ n 1]), (false, [.v (.bool ok)])] => some (⟨cutBo f 0 n, ok⟩, [∀ j, j < n → isBo (f (0 + j)) = true])
  | _ => none
instance : Ret A Wz where
  tv x := .tup [(false, [.kn (boAt x.l) 0 x.l.length 1]), (false, [.b x.ok])]
  good W b x v := ∃ u, v = .tuple #[u, .bool x.ok] ∧ FreshBools W b x.l u
  is := by
    rintro W b x v ⟨u, rfl, h⟩
    rcases h with ⟨h1, rfl⟩ | ⟨a, c, rfl, h1, h2⟩
    · exact ⟨fun _ _ => False, fun _ _ h => h.elim, fun β => ⟨[_, _], ⟨_, _, LIs.of_single (.inl ⟨by rw [h1]; rfl, rfl⟩), ⟨_, [], LIs.of_single rfl, rfl, rfl⟩, rfl⟩, rfl⟩⟩
    · refine ⟨fun a' u => ∃ i, i < x.l.length ∧ a' = a.add i ∧ u = .bool (x.l.getD i false), ?_, fun β => ⟨[_, _], ⟨_, _, LIs.of_single (.inr ⟨a, c, rfl, h1, fun j hj => ⟨_, .inr ⟨j, by omega, rfl, rfl⟩, ?_⟩⟩), ⟨_, [], LIs.of_single rfl, rfl, rfl⟩, rfl⟩, rfl⟩⟩
      · rintro a' u ⟨i, hi, rfl, rfl⟩
        exact h2 i hi
      · rw [Nat.zero_add]; rfl
  parse m t := wzParse t
  ok := by
    intro c W0 W β m t x vc v h hvc hm e
    unfold wzParse at h
    split at h
    · rename_i f i v' n ok
      simp at h
      obtain ⟨rfl, rfl⟩ := h
      have h2 : ∀ j, j < n → isBo (f (0 + j)) = true := fun j hj => hvc (∀ j, j < n → isBo (f (0 + j)) = true) (by simp) j hj
      obtain ⟨vs, ⟨v1, r1, h1, ⟨v2, r2, h3, e', rfl⟩, rfl⟩, rfl⟩ := e
      obtain rfl : r2 = [] := e'
      have hb : v2 = .bool ok := by
        have := (LIs.single (h3 : LIs β _ [v2])).1
        simpa using this
      subst hb
      have e1 : knownIs β f 0 n 1 [v1] := growsIs.known (LIs.single (h1 : LIs β _ [v1]))
      refine ⟨v1, rfl, ?_⟩
      rcases e1 with ⟨rfl, e2⟩ | ⟨p, cp, e2, hn, hk⟩
      · simp at e2
        exact .inl ⟨rfl, e2⟩
      · simp at e2
        refine .inr ⟨p, cp, by simpa [cutBo_len] using e2, by simpa [cutBo_len] using hn, fun j hj => ?_⟩
        rw [cutBo_len] at hj
        obtain ⟨u, k1, k2⟩ := hk j (by omega)
        obtain ⟨k3, k4, _⟩ := hm.kn _ _ k1
        exact ⟨by rw [k3, isBo_cell (h2 j hj) k2, cutBo_at _ _ _ _ hj], k4.resolve_right id⟩
    · cases h
theorem reads_bools {W : World} {l : List Bool} {g : Spot} (h : HasBools W l g) {i m : Nat} (hi : i + m ≤ l.length) : Reads W.cell? g.a (boAt l) i m := by
  intro b hb j hj
  exact ⟨_, h.2.2 b hb (i + j) (by omega), rfl⟩
/-! ### Bools held against one another -/
def fdB (a b : List Bool) : Nat → Nat → Nat
  | 0, i => i
  | f + 1, i => match (a.getD i false == b.getD i false) with | true => fdB a b f (i + 1) | false => i
theorem fdB_spec (a b : List Bool) : ∀ f i, i ≤ fdB a b f i ∧ fdB a b f i ≤ i + f ∧ (∀ j, i ≤ j → j < fdB a b f i → (a.getD j false == b.getD j false) = true) ∧ (fdB a b f i < i + f → (a.getD (fdB a b f i) false == b.getD (fdB a b f i) false) = false)
  | 0, i => ⟨Nat.le_refl _, Nat.le_refl _, fun j h1 h2 => absurd h2 (by show ¬ j < i; omega), fun h => absurd h (by show ¬ i < i + 0; omega)⟩
  | f + 1, i => by
    unfold fdB
    cases he : (a.getD i false == b.getD i false) with
    | true =>
      obtain ⟨h1, h2, h3, h4⟩ := fdB_spec a b f (i + 1)
      refine ⟨by simp only; omega, by simp only; omega, fun j k1 k2 => ?_, fun h => h4 (by simp only at h; omega)⟩
      rcases Nat.eq_or_lt_of_le k1 with rfl | k3
      · exact he
      · exact h3 j k3 k2
    | false => exact ⟨Nat.le_refl _, by simp only; omega, fun j h1 h2 => absurd h2 (by simp only; omega), fun _ => he⟩
def fdM (a b : List Bool) : Nat := fdB a b a.length 0
def bitsV (a b : List Bool) : Bool := match ((a.length : Int) != (b.length : Int)) with | true => false | false => decide (fdM a b = a.length)
theorem bitsV_self (a : List Bool) : bitsV a a = true := by
  obtain ⟨h1, h2, h3, h4⟩ := fdB_spec a a a.length 0
  unfold bitsV
  have e : ((a.length : Int) != (a.length : Int)) = false := by simp
  rw [e]
  refine decide_eq_true ?_
  unfold fdM
  rcases Nat.lt_or_ge (fdB a a a.length 0) a.length with h5 | h5
  · have := h4 (by omega)
    simp at this
  · omega
end Go.Sh
namespace Go.Proofs.YtaloefkkllebeaaDoor
open Go Go.Sh
def boE (g : Spot) (l : List Bool) : SV A := .e g.a (boAt l) 0 l.length g.c
def btS (ga gb : Spot) (a b : List Bool) (i : Nat) : St A :=
  ⟨slots 0 26 [(0, .val false [boE ga a]), (1, .val false [boE gb b]), (4, .val false [.v (.bool false)]), (5, .val false [.n .i64 (i : Int)])], [], 0, [], []⟩
/-- All tests hold but for one; Bools at hand stay as they are. -/
def orBt (s : Nat → Option Bool) : Nat → Nat → Dec := fun _ t => match s t with | some b => .take b | none => .keep
def btQ (b14 b25 : Bool) : Nat → Option Bool := fun t => match Nat.beq t 14 with | true => some b14 | false => match Nat.beq t 25 with | true => some b25 | false => match Nat.beq t 10 with | true => some false | false => none
theorem bits_ok : Computes A Tryd.prog 63 (fun x : Bo × Bo × Unit => bitsV x.1.l x.2.1.l) := by
  refine computes_of_runW (TblOK.nil _) (ITblOK.nil _) Tryd.func63 (by kernel_rfl) (by kernel_rfl) 6 ?_
  rintro ⟨ga, gb, _⟩ ⟨⟨a⟩, ⟨b⟩, ⟨⟩⟩ W ⟨⟨ha, na⟩, ⟨hb, nb⟩, _⟩
  have hA : HasBools W a ga := ha
  have hB : HasBools W b gb := hb
  have nA : a.length < 1048576 := na
  show ∃ orc lp y vc, _ ∧ _ ∧ y = bitsV a b ∧ _
  unfold bitsV
  cases hl : ((a.length : Int) != (b.length : Int)) with
  | true => exact ⟨saysY [], noLoop, false, [((a.length : Int) != (b.length : Int)) = true], by kernel_rfl, ⟨hl, trivial⟩, rfl, fun body _ => loopsFor_none⟩
  | false =>
    have el : a.length = b.length := by
      have h : ¬ ((a.length : Int) ≠ (b.length : Int)) := by simpa [bne_iff_ne] using hl
      omega
    obtain ⟨h1, h2, h3, h4⟩ := fdB_spec a b a.length 0
    have hN : fdM a b ≤ a.length := by unfold fdM; omega
    have one : ∀ (c : Cfg A) (q1 : c.P = Tryd.prog) (q2 : c.gl = (fun _ => none)) (q3 : c.old = W.cell?) (q4 : c.ys = []) (i : Nat), i < fdM a b → Round c (loopNo Tryd.f63 4) (btS ga gb a b i) .normal (btS ga gb a b (i + 1)) := by
      intro c q1 q2 q3 q4 i hi
      have he := h3 i (by omega) hi
      have r1 : Reads W.cell? ga.a (boAt a) i 1 := reads_bools hA (by omega)
      have r2 : Reads W.cell? gb.a (boAt b) i 1 := reads_bools hB (by omega)
      have hne : (!(a.getD i false == b.getD i false)) = false := by rw [he]; rfl
      exact Round.of0 (TblOK.nil _) (orBt (btQ true false)) 6 [WrapI ((i : Int) + 1), (!(a.getD i false == b.getD i false)) = false, Reads W.cell? gb.a (boAt b) i 1, IX (i : Int) b.length, Reads W.cell? ga.a (boAt a) i 1, IX (i : Int) a.length, decide ((i : Int) < (a.length : Int)) = true] (by kernel_rfl)
        ⟨wI (by omega) (by omega), hne, r2, ⟨by omega, by omega⟩, r1, ⟨by omega, by omega⟩, decide_eq_true (by omega), trivial⟩ (by kernel_rfl) (by kernel_rfl) q1 q2 q3 q4
    by_cases hf : fdM a b = a.length
    · rw [decide_eq_true hf]
      have hs : SoundFor Tryd.prog W.cell? [] (.loop (loopNo Tryd.f63 4)) (btS ga gb a b 0) (.exit 0) (btS ga gb a b (fdM a b)) := fun c q1 q2 q3 q4 =>
        loopAt (c := c) (inv := fun i => btS ga gb a b i) (N := fdM a b) (by simp) (fun i hi => one c q1 q2 q3 q4 i hi)
          (by rw [hf]; exact Round.of0 (TblOK.nil _) (orBt (btQ false false)) 6 [decide ((a.length : Int) < (a.length : Int)) = false] (by kernel_rfl) ⟨decide_eq_false (by omega), trivial⟩ (by kernel_rfl) (by kernel_rfl) q1 q2 q3 q4)
      refine ⟨orBt (btQ true true), lps [(4, btS ga gb a b 0, .exit 0, btS ga gb a b (fdM a b))], true, [ToldIs (btS ga gb a b 0), ((a.length : Int) != (b.length : Int)) = false], by kernel_rfl, ⟨toldIs _, hl, trivial⟩, rfl, fun body hb => ?_⟩
      obtain rfl := Option.some.inj hb
      exact LoopsFor.cons (by kernel_rfl) hs LoopsFor.nil
    · rw [decide_eq_false hf]
      have hlt : fdM a b < a.length := by omega
      have hs : SoundFor Tryd.prog W.cell? [] (.loop (loopNo Tryd.f63 4)) (btS ga gb a b 0) .ret (btS ga gb a b (fdM a b)) := fun c q1 q2 q3 q4 =>
        loopAt (c := c) (inv := fun i => btS ga gb a b i) (N := fdM a b) (by simp) (fun i hi => one c q1 q2 q3 q4 i hi) (by
          have he : (a.getD (fdM a b) false == b.getD (fdM a b) false) = false := h4 (by unfold fdM at hlt; omega)
          revert he hlt
          generalize fdM a b = i
          intro hlt he
          have r1 : Reads W.cell? ga.a (boAt a) i 1 := reads_bools hA (by omega)
          have r2 : Reads W.cell? gb.a (boAt b) i 1 := reads_bools hB (by omega)
          have hne : (!(a.getD i false == b.getD i false)) = true := by rw [he]; rfl
          exact Round.of0 (TblOK.nil _) (orBt (btQ true true)) 6 [(!(a.getD i false == b.getD i false)) = true, Reads W.cell? gb.a (boAt b) i 1, IX (i : Int) b.length, Reads W.cell? ga.a (boAt a) i 1, IX (i : Int) a.length, decide ((i : Int) < (a.length : Int)) = true] (by kernel_rfl)
            ⟨hne, r2, ⟨by omega, by omega⟩, r1, ⟨by omega, by omega⟩, decide_eq_true (by omega), trivial⟩ (by kernel_rfl) (by kernel_rfl) q1 q2 q3 q4)
      refine ⟨orBt (btQ true true), lps [(4, btS ga gb a b 0, .ret, btS ga gb a b (fdM a b))], false, [ToldIs (btS ga gb a b 0), ((a.length : Int) != (b.length : Int)) = false], by kernel_rfl, ⟨toldIs _, hl, trivial⟩, rfl, fun body hb => ?_⟩
      obtain rfl := Option.some.inj hb
      exact LoopsFor.cons (by kernel_rfl) hs LoopsFor.nil
end Go.Proofs.YtaloefkkllebeaaDoor

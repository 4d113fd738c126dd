/- Slices of Bools; Bits held against one another. -/
import Derived.Test.YtaloefkkllebeaaDoorTk
import Derived.Test.YtaloefkkllebeaaDoorTq
set_option linter.unusedVariables false
set_option linter.unusedSimpArgs false
set_option linter.unusedSectionVars false
set_option maxRecDepth 100000
namespace Go.Sh
/-- A slice's Bools. -/
structure Bo where
  l : List Bool
/-- Bools that a call leaves, and a Bool. -/
structure Wz where
  l : List Bool
  ok : Bool
def boAt (l : List Bool) : Nat → A := fun j => .bo (l.getD j false)
def boOf : A → Bool
  | .bo b => b
  | _ => false
def isBo : A → Bool
  | .bo _ => true
  | _ => false
theorem isBo_cell {x : A} {v : Value} (h : isBo x = true) (e : Atom.cells x = [v]) : v = .bool (boOf x) := by
  cases x <;> simp [isBo] at h
  rename_i b
  have k4 : [Value.bool b] = [v] := e
  simp at k4
  exact k4.symm
def cutBo (f : Nat → A) (i n : Nat) : List Bool := (List.range n).map fun j => boOf (f (i + j))
theorem cutBo_len (f : Nat → A) (i n : Nat) : (cutBo f i n).length = n := by simp [cutBo]
theorem cutBo_at (f : Nat → A) (i n j : Nat) (h : j < n) : (cutBo f i n).getD j false = boOf (f (i + j)) := by
  unfold cutBo
  rw [List.getD_eq_getElem?_getD, List.getElem?_map, List.getElem?_range h]
  rfl
def HasBools (W : World) (l : List Bool) (g : Spot) : Prop :=
  l.length ≤ g.c ∧ (g.a = none → g.c = 0) ∧ ∀ a, g.a = some a → ∀ i, i < l.length → W.cell? (a.add i) = some (.bool (l.getD i false))
theorem bools_ext {c : Cfg A} {X : Nat → Prop} {W0 W : World} {β : Adr} {m : Mem A} (hm : MRel c X W0 β m W) {a : Option Addr} {f : Nat → A} {i n cp : Nat} {u : Value} (e1 : extIs a i n cp [u]) (h1 : Reads c.old a f i n) (h2 : ∀ j, j < n → isBo (f (i + j)) = true) :
    ∃ g : Spot, HasBools W (cutBo f i n) g ∧ u = spotVal (cutBo f i n).length g := by
  cases a with
  | none =>
    obtain ⟨rfl, rfl, e2⟩ := e1
    simp at e2
    exact ⟨⟨none, 0⟩, ⟨Nat.le_refl _, fun _ => rfl, fun a ha => (by cases ha)⟩, e2⟩
  | some a =>
    obtain ⟨p, hp, hn, e2⟩ := e1
    simp at e2
    refine ⟨⟨some p, cp⟩, ⟨by simpa [cutBo_len] using hn, fun ha => (by cases ha), fun b hb j hj => ?_⟩, by simpa [spotVal, cutBo_len] using e2⟩
    obtain rfl := Option.some.inj hb
    rw [cutBo_len] at hj
    rw [hp (by omega), Addr.add_add]
    obtain ⟨v, k1, k2⟩ := h1 a rfl j hj
    rw [hm.cell k1, isBo_cell (h2 j hj) k2, cutBo_at _ _ _ _ hj]
def boParse (old : Addr → Option Value) : TV A → Option (Bo × List Prop)
  | .val false [.e a f i n _] => some (⟨cutBo f i n⟩, [Reads old a f i n, ∀ j, j < n → isBo (f (i + j)) = true, n < 1048576])
  | .val false [.kn f i n 1] => some (⟨cutBo f i n⟩, [∀ j, j < n → isBo (f (i + j)) = true, n < 1048576])
  | .val false [.v (.slice none 0 0)] => some (⟨[]⟩, [])
  | _ => none
instance : Arg A Bo where
  G := Spot
  good W g x := HasBools W x.l g ∧ x.l.length < 1048576
  tv g x := .val false [.e g.a (boAt x.l) 0 x.l.length g.c]
  val g x := spotVal x.l.length g
  is := by
    intro W g x β h
    obtain ⟨a, c⟩ := g
    obtain ⟨⟨h1, h2, h3⟩, _⟩ := h
    cases a with
    | none =>
      have hc : c = 0 := h2 rfl
      exact LIs.of_single ⟨by simp only at h1; omega, hc, rfl⟩
    | some a => exact LIs.of_single ⟨a, fun _ => (by simp [Addr.add]), h1, rfl⟩
  parse old m t := boParse old (asKn t)
  ok := by
    intro c X W0 W β m t0 x vc v h hvc hm e
    replace e := asKn_is e
    revert h e
    generalize asKn t0 = t
    intro h e
    unfold boParse at h
    split at h
    · rename_i a f i n cp
      simp only [Option.some.injEq, Prod.mk.injEq] at h
      obtain ⟨rfl, rfl⟩ := h
      have h3 : n < 1048576 := hvc (n < 1048576) (by simp)
      obtain ⟨g, k1, k2⟩ := bools_ext hm (LIs.single (e : LIs β _ [v])) (hvc _ (by simp)) (hvc (∀ j, j < n → isBo (f (i + j)) = true) (by simp))
      exact ⟨g, ⟨k1, by simpa [cutBo_len] using h3⟩, k2⟩
    · rename_i f i n
      simp at h
      obtain ⟨rfl, rfl⟩ := h
      have h2 : ∀ j, j < n → isBo (f (i + j)) = true := hvc _ (by simp)
      have h3 : n < 1048576 := hvc (n < 1048576) (by simp)
      have e1 : knownIs β f i n 1 [v] := LIs.single (e : LIs β _ [v])
      rcases e1 with ⟨rfl, e2⟩ | ⟨p, cp, e2, hn, hk⟩
      · simp at e2
        exact ⟨⟨none, 0⟩, ⟨⟨Nat.le_refl _, fun _ => rfl, fun a ha => (by cases ha)⟩, by show (0 : Nat) < _; decide⟩, e2⟩
      · simp at e2
        refine ⟨⟨some p, cp⟩, ⟨⟨by simpa [cutBo_len] using hn, fun ha => (by cases ha), fun b hb j hj => ?_⟩, by simpa [cutBo_len] using h3⟩, by simpa [spotVal, cutBo_len] using e2⟩
        obtain rfl := Option.some.inj hb
        rw [cutBo_len] at hj
        obtain ⟨u, k1, k2⟩ := hk j (by omega)
        rw [(hm.kn _ _ k1).1, isBo_cell (h2 j hj) k2, cutBo_at _ _ _ _ hj]
    · simp at h
      obtain ⟨rfl, rfl⟩ := h
      obtain ⟨e1, _⟩ := LIs.single (e : LIs β _ [v])
      simp at e1
      exact ⟨⟨none, 0⟩, ⟨⟨Nat.le_refl _, fun _ => rfl, fun a ha => (by cases ha)⟩, by show (0 : Nat) < _; decide⟩, e1⟩
    · cases h
def FreshBools (W : World) (b : Nat) (l : List Bool) (v : Value) : Prop :=
  (l = [] ∧ v = .slice none 0 0) ∨ ∃ a c, v = .slice (some a) l.length c ∧ l.length ≤ c ∧ ∀ i, i < l.length → W.cell? (a.add i) = some (.bool (l.getD i false)) ∧ b ≤ (a.add i).block
def wzParse : TV A → Option (Wz × List Prop)
  | .tup [(false, [.gr f _ _ n 1]), (false, [.v (.bool ok)])] => some (⟨cutBo f 0 n, ok⟩, [∀ j, j < n → isBo (f (0 + j)) = true])
  | _ => none
instance : Ret A Wz where
  tv x := .tup [(false, [.kn (boAt x.l) 0 x.l.length 1]), (false, [.b x.ok])]
  good W b x v := ∃ u, v = .tuple #[u, .bool x.ok] ∧ FreshBools W b x.l u
  is := by
    rintro W b x v ⟨u, rfl, h⟩
    rcases h with ⟨h1, rfl⟩ | ⟨a, c, rfl, h1, h2⟩
    · exact ⟨fun _ _ => False, fun _ _ h => h.elim, fun β => ⟨[_, _], ⟨_, _, LIs.of_single (.inl ⟨by rw [h1]; rfl, rfl⟩), ⟨_, [], LIs.of_single rfl, rfl, rfl⟩, rfl⟩, rfl⟩⟩
    · refine ⟨fun a' u => ∃ i, i < x.l.length ∧ a' = a.add i ∧ u = .bool (x.l.getD i false), ?_, fun β => ⟨[_, _], ⟨_, _, LIs.of_single (.inr ⟨a, c, rfl, h1, fun j hj => ⟨_, .inr ⟨j, by omega, rfl, rfl⟩, ?_⟩⟩), ⟨_, [], LIs.of_single rfl, rfl, rfl⟩, rfl⟩, rfl⟩⟩
      · rintro a' u ⟨i, hi, rfl, rfl⟩
        exact h2 i hi
      · rw [Nat.zero_add]; rfl
  parse m t := wzParse t
  ok := by
    intro c W0 W β m t x vc v h hvc hm e
    unfold wzParse at h
    split at h
    · rename_i f i v' n ok
      simp at h
      obtain ⟨rfl, rfl⟩ := h
      have h2 : ∀ j, j < n → isBo (f (0 + j)) = true := fun j hj => hvc (∀ j, j < n → isBo (f (0 + j)) = true) (by simp) j hj
      obtain ⟨vs, ⟨v1, r1, h1, ⟨v2, r2, h3, e', rfl⟩, rfl⟩, rfl⟩ := e
      obtain rfl : r2 = [] := e'
      have hb : v2 = .bool ok := by
        have := (LIs.single (h3 : LIs β _ [v2])).1
        simpa using this
      subst hb
      have e1 : knownIs β f 0 n 1 [v1] := growsIs.known (LIs.single (h1 : LIs β _ [v1]))
      refine ⟨v1, rfl, ?_⟩
      rcases e1 with ⟨rfl, e2⟩ | ⟨p, cp, e2, hn, hk⟩
      · simp at e2
        exact .inl ⟨rfl, e2⟩
      · simp at e2
        refine .inr ⟨p, cp, by simpa [cutBo_len] using e2, by simpa [cutBo_len] using hn, fun j hj => ?_⟩
        rw [cutBo_len] at hj
        obtain ⟨u, k1, k2⟩ := hk j (by omega)
        obtain ⟨k3, k4, _⟩ := hm.kn _ _ k1
        exact ⟨by rw [k3, isBo_cell (h2 j hj) k2, cutBo_at _ _ _ _ hj], k4.resolve_right id⟩
    · cases h
theorem reads_bools {W : World} {l : List Bool} {g : Spot} (h : HasBools W l g) {i m : Nat} (hi : i + m ≤ l.length) : Reads W.cell? g.a (boAt l) i m := by
  intro b hb j hj
  exact ⟨_, h.2.2 b hb (i + j) (by omega), rfl⟩
/-! ### Bools held against one another -/
def fdB (a b : List Bool) : Nat → Nat → Nat
  | 0, i => i
  | f + 1, i => match (a.getD i false == b.getD i false) with | true => fdB a b f (i + 1) | false => i
theorem fdB_spec (a b : List Bool) : ∀ f i, i ≤ fdB a b f i ∧ fdB a b f i ≤ i + f ∧ (∀ j, i ≤ j → j < fdB a b f i → (a.getD j false == b.getD j false) = true) ∧ (fdB a b f i < i + f → (a.getD (fdB a b f i) false == b.getD (fdB a b f i) false) = false)
  | 0, i => ⟨Nat.le_refl _, Nat.le_refl _, fun j h1 h2 => absurd h2 (by show ¬ j < i; omega), fun h => absurd h (by show ¬ i < i + 0; omega)⟩
  | f + 1, i => by
    unfold fdB
    cases he : (a.getD i false == b.getD i false) with
    | true =>
      obtain ⟨h1, h2, h3, h4⟩ := fdB_spec a b f (i + 1)
      refine ⟨by simp only; omega, by simp only; omega, fun j k1 k2 => ?_, fun h => h4 (by simp only at h; omega)⟩
      rcases Nat.eq_or_lt_of_le k1 with rfl | k3
      · exact he
      · exact h3 j k3 k2
    | false => exact ⟨Nat.le_refl _, by simp only; omega, fun j h1 h2 => absurd h2 (by simp only; omega), fun _ => he⟩
def fdM (a b : List Bool) : Nat := fdB a b a.length 0
def bitsV (a b : List Bool) : Bool := match ((a.length : Int) != (b.length : Int)) with | true => false | false => decide (fdM a b = a.length)
theorem bitsV_self (a : List Bool) : bitsV a a = true := by
  obtain ⟨h1, h2, h3, h4⟩ := fdB_spec a a a.length 0
  unfold bitsV
  have e : ((a.length : Int) != (a.length : Int)) = false := by simp
  rw [e]
  refine decide_eq_true ?_
  unfold fdM
  rcases Nat.lt_or_ge (fdB a a a.length 0) a.length with h5 | h5
  · have := h4 (by omega)
    simp at this
  · omega
end Go.Sh
namespace Go.Proofs.YtaloefkkllebeaaDoor
open Go Go.Sh
def boE (g : Spot) (l : List Bool) : SV A := .e g.a (boAt l) 0 l.length g.c
def btS (ga gb : Spot) (a b : List Bool) (i : Nat) : St A :=
  ⟨slots 0 26 [(0, .val false [boE ga a]), (1, .val false [boE gb b]), (4, .val false [.v (.bool false)]), (5, .val false [.n .i64 (i : Int)])], [], 0, [], []⟩
/-- All tests hold but for one; Bools at hand stay as they are. -/
def orBt (s : Nat → Option Bool) : Nat → Nat → Dec := fun _ t => match s t with | some b => .take b | none => .keep
def btQ (b14 b25 : Bool) : Nat → Option Bool := fun t => match Nat.beq t 14 with | true => some b14 | false => match Nat.beq t 25 with | true => some b25 | false => match Nat.beq t 10 with | true => some false | false => none
theorem bits_ok : Computes A Tryd.prog 63 (fun x : Bo × Bo × Unit => bitsV x.1.l x.2.1.l) := by
  refine computes_of_runW (TblOK.nil _) (ITblOK.nil _) Tryd.func63 (by kernel_rfl) (by kernel_rfl) 6 ?_
  rintro ⟨ga, gb, _⟩ ⟨⟨a⟩, ⟨b⟩, ⟨⟩⟩ W ⟨⟨ha, na⟩, ⟨hb, nb⟩, _⟩
  have hA : HasBools W a ga := ha
  have hB : HasBools W b gb := hb
  have nA : a.length < 1048576 := na
  show ∃ orc lp y vc, _ ∧ _ ∧ y = bitsV a b ∧ _
  unfold bitsV
  cases hl : ((a.length : Int) != (b.length : Int)) with
  | true => exact ⟨saysY [], noLoop, false, [((a.length : Int) != (b.length : Int)) = true], by kernel_rfl, ⟨hl, trivial⟩, rfl, fun body _ => loopsFor_none⟩
  | false =>
    have el : a.length = b.length := by
      have h : ¬ ((a.length : Int) ≠ (b.length : Int)) := by simpa [bne_iff_ne] using hl
      omega
    obtain ⟨h1, h2, h3, h4⟩ := fdB_spec a b a.length 0
    have hN : fdM a b ≤ a.length := by unfold fdM; omega
    have one : ∀ (c : Cfg A) (q1 : c.P = Tryd.prog) (q2 : c.gl = (fun _ => none)) (q3 : c.old = W.cell?) (q4 : c.ys = []) (i : Nat), i < fdM a b → Round c (loopNo Tryd.f63 4) (btS ga gb a b i) .normal (btS ga gb a b (i + 1)) := by
      intro c q1 q2 q3 q4 i hi
      have he := h3 i (by omega) hi
      have r1 : Reads W.cell? ga.a (boAt a) i 1 := reads_bools hA (by omega)
      have r2 : Reads W.cell? gb.a (boAt b) i 1 := reads_bools hB (by omega)
      have hne : (!(a.getD i false == b.getD i false)) = false := by rw [he]; rfl
      exact Round.of0 (TblOK.nil _) (orBt (btQ true false)) 6 [WrapI ((i : Int) + 1), (!(a.getD i false == b.getD i false)) = false, Reads W.cell? gb.a (boAt b) i 1, IX (i : Int) b.length, Reads W.cell? ga.a (boAt a) i 1, IX (i : Int) a.length, decide ((i : Int) < (a.length : Int)) = true] (by kernel_rfl)
        ⟨wI (by omega) (by omega), hne, r2, ⟨by omega, by omega⟩, r1, ⟨by omega, by omega⟩, decide_eq_true (by omega), trivial⟩ (by kernel_rfl) (by kernel_rfl) q1 q2 q3 q4
    by_cases hf : fdM a b = a.length
    · rw [decide_eq_true hf]
      have hs : SoundFor Tryd.prog W.cell? [] (.loop (loopNo Tryd.f63 4)) (btS ga gb a b 0) (.exit 0) (btS ga gb a b (fdM a b)) := fun c q1 q2 q3 q4 =>
        loopAt (c := c) (inv := fun i => btS ga gb a b i) (N := fdM a b) (by simp) (fun i hi => one c q1 q2 q3 q4 i hi)
          (by rw [hf]; exact Round.of0 (TblOK.nil _) (orBt (btQ false false)) 6 [decide ((a.length : Int) < (a.length : Int)) = false] (by kernel_rfl) ⟨decide_eq_false (by omega), trivial⟩ (by kernel_rfl) (by kernel_rfl) q1 q2 q3 q4)
      refine ⟨orBt (btQ true true), lps [(4, btS ga gb a b 0, .exit 0, btS ga gb a b (fdM a b))], true, [ToldIs (btS ga gb a b 0), ((a.length : Int) != (b.length : Int)) = false], by kernel_rfl, ⟨toldIs _, hl, trivial⟩, rfl, fun body hb => ?_⟩
      obtain rfl := Option.some.inj hb
      exact LoopsFor.cons (by kernel_rfl) hs LoopsFor.nil
    · rw [decide_eq_false hf]
      have hlt : fdM a b < a.length := by omega
      have hs : SoundFor Tryd.prog W.cell? [] (.loop (loopNo Tryd.f63 4)) (btS ga gb a b 0) .ret (btS ga gb a b (fdM a b)) := fun c q1 q2 q3 q4 =>
        loopAt (c := c) (inv := fun i => btS ga gb a b i) (N := fdM a b) (by simp) (fun i hi => one c q1 q2 q3 q4 i hi) (by
          have he : (a.getD (fdM a b) false == b.getD (fdM a b) false) = false := h4 (by unfold fdM at hlt; omega)
          revert he hlt
          generalize fdM a b = i
          intro hlt he
          have r1 : Reads W.cell? ga.a (boAt a) i 1 := reads_bools hA (by omega)
          have r2 : Reads W.cell? gb.a (boAt b) i 1 := reads_bools hB (by omega)
          have hne : (!(a.getD i false == b.getD i false)) = true := by rw [he]; rfl
          exact Round.of0 (TblOK.nil _) (orBt (btQ true true)) 6 [(!(a.getD i false == b.getD i false)) = true, Reads W.cell? gb.a (boAt b) i 1, IX (i : Int) b.length, Reads W.cell? ga.a (boAt a) i 1, IX (i : Int) a.length, decide ((i : Int) < (a.length : Int)) = true] (by kernel_rfl)
            ⟨hne, r2, ⟨by omega, by omega⟩, r1, ⟨by omega, by omega⟩, decide_eq_true (by omega), trivial⟩ (by kernel_rfl) (by kernel_rfl) q1 q2 q3 q4)
      refine ⟨orBt (btQ true true), lps [(4, btS ga gb a b 0, .ret, btS ga gb a b (fdM a b))], false, [ToldIs (btS ga gb a b 0), ((a.length : Int) != (b.length : Int)) = false], by kernel_rfl, ⟨toldIs _, hl, trivial⟩, rfl, fun body hb => ?_⟩
      obtain rfl := Option.some.inj hb
      exact LoopsFor.cons (by kernel_rfl) hs LoopsFor.nil
end Go.Proofs.YtaloefkkllebeaaDoor

/- Roots: bits as bytes, by the reference. -/
namespace Go.Sh
/-- How many bytes so many bits take. -/
def nB (l : List Bool) : Nat := (((l.length : Int) + 7).tdiv 8).toNat
def bitA (i : Nat) : UInt8 := UInt8.ofNat (((1 : Int) * 2 ^ min ((i : Int).tmod 8).toNat IntKind.u8.bits) % 256).toNat
def orU (x y : UInt8) : UInt8 := UInt8.ofNat ((((BitVec.ofInt IntKind.u8.bits (x.toNat : Int) ||| BitVec.ofInt IntKind.u8.bits (y.toNat : Int)).toNat : Nat) : Int) % 256).toNat
/-- One bit set. -/
def stB (f : Nat → UInt8) (i : Nat) : Nat → UInt8 := upd f ((i : Int).tdiv 8).toNat (orU (f ((i : Int).tdiv 8).toNat) (bitA i))
def bfN (l : List Bool) : Nat → Nat → UInt8
  | 0 => fun _ => UInt8.ofNat ((0 : Int) % 256).toNat
  | i + 1 => match l.getD i false with | true => stB (bfN l i) i | false => bfN l i
/-- Bits as bytes. -/
def bitsL (l : List Bool) : List UInt8 := (List.range (nB l)).map (bfN l l.length)
theorem bitsL_len (l : List Bool) : (bitsL l).length = nB l := by simp [bitsL]
theorem nB_eq (l : List Bool) : nB l = (l.length + 7) / 8 := by
  unfold nB
  have e : ((l.length : Int) + 7).tdiv 8 = (((l.length + 7) / 8 : Nat) : Int) := rfl
  rw [e, Int.toNat_natCast]
end Go.Sh
namespace Go.Proofs.YtaloefkkllebeaaDoor
open Go Go.Sh
def rbitS (g : Spot) (l : List Bool) (n : Nat) (f : Nat → UInt8) (i : Nat) : St A :=
  ⟨slots 0 31 [(0, .val false [boE g l]), (2, .val false [.v (.slice none 0 0)]), (3, .val false [.s 0 0 n n]), (4, .val false [.n .i64 (i : Int)])], [some ⟨[.a (.z8 n f)], 5, false⟩], 0, [], []⟩
def rbitQ (b : Bool) : Nat → Nat → Dec := fun _ t => match Nat.beq t 13 with | true => .take true | false => match Nat.beq t 19 with | true => .take b | false => .keep
theorem refBits_ok : Computes A Tryd.prog 100 (fun x : Bo × Unit => (⟨bitsL x.1.l⟩ : Bz)) := by
  refine computes_of_runW (TblOK.nil _) (ITblOK.nil _) Tryd.func100 (by kernel_rfl) (by kernel_rfl) 6 ?_
  rintro ⟨g, _⟩ ⟨⟨l⟩, ⟨⟩⟩ W ⟨⟨hg, hn⟩, _⟩
  have hG : HasBools W l g := hg
  have hN : l.length < 1048576 := hn
  have q2 : ((l.length : Int) + 7).tdiv 8 = (((l.length + 7) / 8 : Nat) : Int) := rfl
  have hs : SoundFor Tryd.prog W.cell? [] (.loop (loopNo Tryd.f100 3)) (rbitS g l (nB l) (bfN l 0) 0) (.exit 0) (rbitS g l (nB l) (bfN l l.length) l.length) := fun c e1 e2 e3 e4 =>
    loopAt (c := c) (inv := fun i => rbitS g l (nB l) (bfN l i) i) (N := l.length) (by simp)
      (fun i hi => by
        have rd : Reads W.cell? g.a (boAt l) i 1 := reads_bools hG (by omega)
        have hd : (i : Int).tdiv 8 = ((i / 8 : Nat) : Int) := rfl
        have hm : (i : Int).tmod 8 = ((i % 8 : Nat) : Int) := rfl
        have hb : 0 ≤ (i : Int).tdiv 8 ∧ (i : Int).tdiv 8 < (nB l : Int) := by rw [hd, nB_eq]; omega
        show Round c _ (rbitS g l (nB l) (bfN l i) i) .normal (rbitS g l (nB l) (match l.getD i false with | true => stB (bfN l i) i | false => bfN l i) (i + 1))
        generalize bfN l i = f
        revert hb
        generalize nB l = n
        intro hb
        cases hbit : l.getD i false with
        | true =>
          exact Round.of0 (TblOK.nil _) (rbitQ true) 6 [WrapI ((i : Int) + 1), n = n, 0 ≤ (i : Int).tdiv 8 ∧ (i : Int).tdiv 8 < (n : Int), 0 ≤ (i : Int).tmod 8, n = n, 0 ≤ (i : Int).tdiv 8 ∧ (i : Int).tdiv 8 < (n : Int), WrapI ((i : Int).tdiv 8), l.getD i false = true, Reads W.cell? g.a (boAt l) i 1, IX (i : Int) l.length, decide ((i : Int) < (l.length : Int)) = true] (by kernel_rfl)
            ⟨wI (by omega) (by omega), rfl, hb, by rw [hm]; omega, rfl, hb, wI (by rw [hd]; omega) (by rw [hd]; omega), hbit, rd, ⟨by omega, by omega⟩, decide_eq_true (by omega), trivial⟩ (by kernel_rfl) (by kernel_rfl) e1 e2 e3 e4
        | false =>
          exact Round.of0 (TblOK.nil _) (rbitQ false) 6 [WrapI ((i : Int) + 1), l.getD i false = false, Reads W.cell? g.a (boAt l) i 1, IX (i : Int) l.length, decide ((i : Int) < (l.length : Int)) = true] (by kernel_rfl)
            ⟨wI (by omega) (by omega), hbit, rd, ⟨by omega, by omega⟩, decide_eq_true (by omega), trivial⟩ (by kernel_rfl) (by kernel_rfl) e1 e2 e3 e4)
      (by
        generalize bfN l l.length = f
        generalize nB l = n
        exact Round.of0 (TblOK.nil _) (saysY [(13, false)]) 6 [decide ((l.length : Int) < (l.length : Int)) = false] (by kernel_rfl) ⟨decide_eq_false (by omega), trivial⟩ (by kernel_rfl) (by kernel_rfl) e1 e2 e3 e4)
  show ∃ orc lp y vc, _ ∧ _ ∧ y = (⟨bitsL l⟩ : Bz) ∧ _
  unfold bitsL
  revert hs
  generalize bfN l l.length = f
  intro hs
  refine ⟨saysY [], lps [(3, rbitS g l (nB l) (bfN l 0) 0, .exit 0, rbitS g l (nB l) f l.length)], ⟨(List.range (nB l)).map fun j => f j⟩,
    [nB l = nB l, nB l ≤ nB l, ToldIs (rbitS g l (nB l) (bfN l 0) 0), Makes 1 (((l.length : Int) + 7).tdiv 8) (((l.length : Int) + 7).tdiv 8), WrapI (((l.length : Int) + 7).tdiv 8), WrapI ((l.length : Int) + 7)], by kernel_rfl,
    ⟨rfl, Nat.le_refl _, toldIs _, ⟨rfl, by rw [q2]; omega, by rw [q2]; omega, by rw [q2]; omega⟩, wI (by rw [q2]; omega) (by rw [q2]; omega), wI (by omega) (by omega), trivial⟩, rfl, fun body hb => ?_⟩
  obtain rfl := Option.some.inj hb
  exact LoopsFor.cons (by kernel_rfl) hs LoopsFor.nil
end Go.Proofs.YtaloefkkllebeaaDoor

/- Roots: an aggregate's. -/
namespace Go.Sh
/-- An aggregate: its bits, its signature. -/
structure Ag where
  bits : List Bool
  sig : R8 96
/-- An aggregate of any number of bits. -/
structure Al where
  bits : List Bool
  sig : R8 96
def alParse (old : Addr → Option Value) : TV A → Option (List Bool × R8 96 × List Prop)
  | .val true (.e a f i n c :: cells) =>
    match Rep.parseV (A := A) (T := R8 96) true cells with
    | some r => some (cutBo f i n, r, [Reads old a f i n, ∀ j, j < n → isBo (f (i + j)) = true])
    | none => none
  | _ => none
theorem alParse_ok {c : Cfg A} {X : Nat → Prop} {W0 W : World} {β : Adr} {m : Mem A} (hm : MRel c X W0 β m W) {t : TV A} {l : List Bool} {r : R8 96} {vc : List Prop} {v : Value} (h : alParse c.old t = some (l, r, vc)) (hvc : ∀ p ∈ vc, p) (e : t.Is β v) :
    ∃ g : Spot, HasBools W l g ∧ v = .agg (spotVal l.length g :: Rep.vals A r).toArray := by
  unfold alParse at h
  split at h
  · rename_i a f i n cp cells
    split at h
    · rename_i r' hr
      simp only [Option.some.injEq, Prod.mk.injEq] at h
      obtain ⟨rfl, rfl, rfl⟩ := h
      obtain ⟨vs, ⟨x1, y1, h1, h2, rfl⟩, rfl⟩ := e
      have e1 : extIs a i n cp x1 := h1
      have k3 := Rep.parseV_ok (A := A) hr (β := β) (v := .agg y1.toArray) ⟨y1, h2, rfl⟩
      have k4 : y1 = Rep.vals A r' := by
        have k5 : Value.agg y1.toArray = .agg (Rep.vals A r').toArray := k3
        simpa using k5
      have hu : ∃ u, x1 = [u] := by
        cases a with
        | none => obtain ⟨_, _, q⟩ := e1; exact ⟨_, q⟩
        | some b => obtain ⟨_, _, _, q⟩ := e1; exact ⟨_, q⟩
      obtain ⟨u, rfl⟩ := hu
      obtain ⟨g, k1, k2⟩ := bools_ext hm e1 (hvc _ (by simp)) (hvc (∀ j, j < n → isBo (f (i + j)) = true) (by simp))
      exact ⟨g, k1, by rw [k4, k2]; rfl⟩
    · cases h
  · cases h
theorem al_is {W : World} {g : Spot} {l : List Bool} {s : R8 96} (β : Adr) (h : HasBools W l g) (hn : l.length < 1048576 ∨ True) : (TV.val true [.e g.a (boAt l) 0 l.length g.c, .a (.w8 96 s.f)] : TV A).Is β (.agg (spotVal l.length g :: Rep.vals A s).toArray) := by
  obtain ⟨a, c⟩ := g
  obtain ⟨h1, h2, h3⟩ := h
  refine ⟨spotVal l.length ⟨a, c⟩ :: Rep.vals A s, ⟨[spotVal l.length ⟨a, c⟩], Rep.vals A s, ?_, LIs.atom rfl, rfl⟩, rfl⟩
  cases a with
  | none =>
    have hc : c = 0 := h2 rfl
    exact ⟨by simp only at h1; omega, hc, rfl⟩
  | some a => exact ⟨a, fun _ => (by simp [Addr.add]), h1, rfl⟩
instance : Arg A Ag where
  G := Spot
  good W g x := HasBools W x.bits g ∧ x.bits.length ≤ 512
  tv g x := .val true [.e g.a (boAt x.bits) 0 x.bits.length g.c, .a (.w8 96 x.sig.f)]
  val g x := .agg (spotVal x.bits.length g :: Rep.vals A x.sig).toArray
  is := by
    intro W g x β h
    exact al_is β h.1 (.inr trivial)
  parse old m t := match alParse old t with | some (l, r, vc) => some (⟨l, r⟩, (l.length ≤ 512) :: vc) | none => none
  ok := by
    intro c X W0 W β m t x vc v h hvc hm e
    split at h
    · rename_i l r vc' hp
      simp only [Option.some.injEq, Prod.mk.injEq] at h
      obtain ⟨rfl, rfl⟩ := h
      obtain ⟨g, k1, k2⟩ := alParse_ok hm hp (fun p hp => hvc p (by simp [hp])) e
      exact ⟨g, ⟨k1, hvc _ (by simp)⟩, k2⟩
    · cases h
instance : Arg A Al where
  G := Spot
  good W g x := HasBools W x.bits g
  tv g x := .val true [.e g.a (boAt x.bits) 0 x.bits.length g.c, .a (.w8 96 x.sig.f)]
  val g x := .agg (spotVal x.bits.length g :: Rep.vals A x.sig).toArray
  is := by
    intro W g x β h
    exact al_is β h (.inr trivial)
  parse old m t := match alParse old t with | some (l, r, vc) => some (⟨l, r⟩, vc) | none => none
  ok := by
    intro c X W0 W β m t x vc v h hvc hm e
    split at h
    · rename_i l r vc' hp
      simp only [Option.some.injEq, Prod.mk.injEq] at h
      obtain ⟨rfl, rfl⟩ := h
      exact alParse_ok hm hp hvc e
    · cases h
instance : OpensArg A Al where
  shape := .sbool (List.replicate 96 (.int .u8))
  opens W v h := by
    obtain ⟨l, g, cs, ⟨h1, h2, h3⟩, h4, rfl⟩ := h
    obtain ⟨s, rfl⟩ := Opens.opens (A := A) (T := R8 96) cs h4
    exact ⟨g, ⟨l, s⟩, ⟨h1, h2, h3⟩, rfl⟩
/-! ### One bit, by a word's shift -/
def bitU (i : Nat) : UInt8 := UInt8.ofNat (((1 : Int) * 2 ^ min ((UInt64.ofNat ((i : Int).tmod 8 % 18446744073709551616).toNat).toNat : Int).toNat IntKind.u8.bits) % 256).toNat
theorem bitU_eq (i : Nat) : bitU i = bitA i := by
  have hm : (i : Int).tmod 8 = ((i % 8 : Nat) : Int) := rfl
  have h8 : i % 8 < 8 := Nat.mod_lt _ (by decide)
  have e : ((UInt64.ofNat ((i : Int).tmod 8 % 18446744073709551616).toNat).toNat : Int).toNat = ((i : Int).tmod 8).toNat := by
    rw [hm, Int.toNat_natCast, Int.toNat_natCast, UInt64.toNat_ofNat_of_lt' (show _ < 18446744073709551616 by omega)]
    omega
  unfold bitU bitA
  rw [e]
def stU (f : Nat → UInt8) (i : Nat) : Nat → UInt8 := upd f ((i : Int).tdiv 8).toNat (orU (f ((i : Int).tdiv 8).toNat) (bitU i))
theorem stU_eq (f : Nat → UInt8) (i : Nat) : stU f i = stB f i := by unfold stU stB; rw [bitU_eq]
end Go.Sh
namespace Go.Proofs.YtaloefkkllebeaaDoor
open Go Go.Sh
/-- The writer's bits, run where they stand: the state of the loop; what is told of it. -/
def agM (g : Spot) (l : List Bool) (s : Nat → UInt8) (n : Nat) (f : Nat → UInt8) : Mem A :=
  [some ⟨[boE g l, .a (.w8 96 s)], 71, false⟩, some ⟨zer8 32, 46, false⟩, some ⟨[.mk 0 0], 5, false⟩, some ⟨[.gr (fun _ => Atom.dummy) 2 0 0 1], 153, false⟩, some ⟨[.a (.z8 n f)], 5, false⟩]
def agS (g : Spot) (l : List Bool) (s : Nat → UInt8) (n : Nat) (f : Nat → UInt8) (i : Nat) : St A :=
  ⟨slots 0 35 [(0, .val false [.p 3 0]), (1, .val false [boE g l]), (4, .val false [.s 4 0 n n]), (12, .val false [boE g l]), (13, .val false [.n .i64 (l.length : Int)]), (14, .val false [.n .i64 (i : Int)])], agM g l s n f, 0, [], []⟩
def wbQ (b : Bool) : Nat → Nat → Dec := fun _ t => match Nat.beq t 15 with | true => .take true | false => match Nat.beq t 18 with | true => .take b | false => .keep
theorem agLoop (W : World) (g : Spot) (l : List Bool) (s : Nat → UInt8) (hG : HasBools W l g) (hN : l.length < 1048576) :
    SoundFor Tryd.prog W.cell? [] (.loop (loopNo Tryd.f98 2)) (agS g l s (nB l) (bfN l 0) 0) (.exit 0) (agS g l s (nB l) (bfN l l.length) l.length) := fun c e1 e2 e3 e4 =>
    loopAt (c := c) (inv := fun i => agS g l s (nB l) (bfN l i) i) (N := l.length) (by simp)
      (fun i hi => by
        have rd : Reads W.cell? g.a (boAt l) i 1 := reads_bools hG (by omega)
        have hd : (i : Int).tdiv 8 = ((i / 8 : Nat) : Int) := rfl
        have hm : (i : Int).tmod 8 = ((i % 8 : Nat) : Int) := rfl
        have hb : 0 ≤ (i : Int).tdiv 8 ∧ (i : Int).tdiv 8 < (nB l : Int) := by rw [hd, nB_eq]; omega
        show Round c _ (agS g l s (nB l) (bfN l i) i) .normal (agS g l s (nB l) (match l.getD i false with | true => stB (bfN l i) i | false => bfN l i) (i + 1))
        rw [← stU_eq]
        generalize bfN l i = f
        revert hb
        generalize nB l = n
        intro hb
        cases hbit : l.getD i false with
        | true =>
          exact Round.of0 (TblOK.nil _) (wbQ true) 6 [WrapI ((i : Int) + 1), n = n, 0 ≤ (i : Int).tdiv 8 ∧ (i : Int).tdiv 8 < (n : Int), 0 ≤ ((UInt64.ofNat ((i : Int).tmod 8 % 18446744073709551616).toNat).toNat : Int), n = n, 0 ≤ (i : Int).tdiv 8 ∧ (i : Int).tdiv 8 < (n : Int), WrapI ((i : Int).tdiv 8), l.getD i false = true, Reads W.cell? g.a (boAt l) i 1, IX (i : Int) l.length, decide ((i : Int) < (l.length : Int)) = true] (by kernel_rfl)
            ⟨wI (by omega) (by omega), rfl, hb, by omega, rfl, hb, wI (by rw [hd]; omega) (by rw [hd]; omega), hbit, rd, ⟨by omega, by omega⟩, decide_eq_true (by omega), trivial⟩ (by kernel_rfl) (by kernel_rfl) e1 e2 e3 e4
        | false =>
          exact Round.of0 (TblOK.nil _) (wbQ false) 6 [WrapI ((i : Int) + 1), l.getD i false = false, Reads W.cell? g.a (boAt l) i 1, IX (i : Int) l.length, decide ((i : Int) < (l.length : Int)) = true] (by kernel_rfl)
            ⟨wI (by omega) (by omega), hbit, rd, ⟨by omega, by omega⟩, decide_eq_true (by omega), trivial⟩ (by kernel_rfl) (by kernel_rfl) e1 e2 e3 e4)
      (by
        generalize bfN l l.length = f
        generalize nB l = n
        exact Round.of0 (TblOK.nil _) (saysY [(15, false)]) 6 [decide ((l.length : Int) < (l.length : Int)) = false] (by kernel_rfl) ⟨decide_eq_false (by omega), trivial⟩ (by kernel_rfl) (by kernel_rfl) e1 e2 e3 e4)
noncomputable def wBytes : Row A := rowIn Tryd.prog [] [] (fun _ _ => .keep) 6 122 Tryd.f122
theorem wBytes_ok : RowOK Tryd.prog wBytes := rowIn_ok (TblOK.nil _) (ITblOK.nil _) _ 6 Tryd.func122 (by kernel_rfl) (by kernel_rfl)
noncomputable def wBits (pre post : St A) : Row A := rowInW Tryd.prog [wBytes] [] (saysY []) (lps [(2, pre, .exit 0, post)]) 6 98 Tryd.f98
theorem wBits_ok (pre post : St A) : RowOK Tryd.prog (wBits pre post) := rowInW_ok (.cons wBytes_ok (.nil _)) (ITblOK.nil _) _ _ 6 Tryd.func98 (by kernel_rfl) (by kernel_rfl)
noncomputable def wAll : Row A := (rowIn Tryd.prog [] [] (fun _ _ => .keep) 6 99 Tryd.f99).kept
theorem wAll_ok : RowOK Tryd.prog wAll := Row.kept_ok (rowIn_ok (TblOK.nil _) (ITblOK.nil _) _ 6 Tryd.func99 (by kernel_rfl) (by kernel_rfl))
def orAg : Nat → Nat → Dec := fun _ t => match Nat.beq t 3 with | true => .grow 5 1 | false => .keep
end Go.Proofs.YtaloefkkllebeaaDoor

/- Roots: packing. -/
namespace Go.Sh
/-- Bytes, 96 at most. -/
structure Bv where
  l : List UInt8
instance : Arg A Bv where
  G := Arg.G A Bs
  good W g x := Arg.good (A := A) W g (⟨x.l⟩ : Bs) ∧ x.l.length ≤ 96
  tv g x := Arg.tv (A := A) g (⟨x.l⟩ : Bs)
  val g x := Arg.val (A := A) g (⟨x.l⟩ : Bs)
  is := by
    intro W g x β h
    exact Arg.is (A := A) (T := Bs) β h.1
  parse old m t := match Arg.parse (A := A) (T := Bs) old m t with | some (b, vc) => some (⟨b.l⟩, (b.l.length ≤ 96) :: vc) | none => none
  ok := by
    intro c X W0 W β m t x vc v h hvc hm e
    split at h
    · rename_i b vc' hb
      simp only [Option.some.injEq, Prod.mk.injEq] at h
      obtain ⟨rfl, rfl⟩ := h
      obtain ⟨g, k1, k2⟩ := Arg.ok (A := A) (T := Bs) (c := c) (m := m) (t := t) hb (fun p hp => hvc p (by simp [hp])) hm e
      exact ⟨g, ⟨k1, hvc _ (by simp)⟩, k2⟩
    · cases h
/-- Bytes from o on, m at most, in a chunk. -/
def splO (l : List UInt8) (o m : Nat) : Nat → UInt8 := fun j =>
  match Nat.blt j (min m (32 - 0)) with
  | true => (match (byteAt l (o + j) : A) with | .u8 x => x | _ => 0)
  | false => pickN 0 (List.replicate 32 (UInt8.ofNat 0)) j
def pk1 (a : Nat → UInt8) : Nat → A := fun q => ((lits a)[0 + q]?).getD (.u8 (a 0))
def pk2 (a b : Nat → UInt8) : Nat → A := catF (pk1 a) (timesN 1 (31 + 1)) (fun j => ((lits b)[j]?).getD (.u8 (b 0))) 0
def pk3 (a b c : Nat → UInt8) : Nat → A := catF (pk2 a b) (timesN (1 + 1) (31 + 1)) (fun j => ((lits c)[j]?).getD (.u8 (c 0))) 0
def lit1 (a : Nat → UInt8) (j : Nat) : A := ((lits a)[j]?).getD (.u8 (a 0))
theorem lit1_at (a : Nat → UInt8) (j : Nat) (h : j < 32) : lit1 a j = .u8 (a j) := by
  unfold lit1 lits
  rw [List.getElem?_map, List.getElem?_range h]
  rfl
theorem lit1_u8 (a : Nat → UInt8) (j : Nat) : isU8 (lit1 a j) = true := by
  unfold lit1
  cases h : (lits a)[j]? with
  | none => rfl
  | some x => exact lits_u8 a x (List.mem_of_getElem? h)
theorem pk1_eq (a : Nat → UInt8) (j : Nat) : pk1 a j = lit1 a j := by unfold pk1 lit1; rw [Nat.zero_add]
theorem pk2_eq (a b : Nat → UInt8) (j : Nat) : pk2 a b j = if j < 32 then lit1 a j else lit1 b (j - 32) := by
  unfold pk2
  simp only [catF]
  have e : timesN 1 (31 + 1) = 32 := rfl
  rw [e]
  by_cases h : j < 32
  · have hb : j.blt 32 = true := by rw [Nat.blt_eq]; exact h
    rw [hb, if_pos h]
    exact pk1_eq a j
  · have hb : j.blt 32 = false := by rw [Bool.eq_false_iff, ne_eq, Nat.blt_eq]; exact h
    rw [hb, if_neg h]
    show lit1 b (0 + (j - 32)) = _
    rw [Nat.zero_add]
theorem pk3_eq (a b c : Nat → UInt8) (j : Nat) : pk3 a b c j = if j < 64 then pk2 a b j else lit1 c (j - 64) := by
  unfold pk3
  simp only [catF]
  have e : timesN (1 + 1) (31 + 1) = 64 := rfl
  rw [e]
  by_cases h : j < 64
  · have hb : j.blt 64 = true := by rw [Nat.blt_eq]; exact h
    rw [hb, if_pos h]
  · have hb : j.blt 64 = false := by rw [Bool.eq_false_iff, ne_eq, Nat.blt_eq]; exact h
    rw [hb, if_neg h]
    show lit1 c (0 + (j - 64)) = _
    rw [Nat.zero_add]
theorem pk1_u8 (a : Nat → UInt8) (j : Nat) : isU8 (pk1 a j) = true := by rw [pk1_eq]; exact lit1_u8 a j
theorem pk2_u8 (a b : Nat → UInt8) (j : Nat) : isU8 (pk2 a b j) = true := by rw [pk2_eq]; split <;> exact lit1_u8 _ _
theorem pk3_u8 (a b c : Nat → UInt8) (j : Nat) : isU8 (pk3 a b c j) = true := by rw [pk3_eq]; split; exact pk2_u8 _ _ _; exact lit1_u8 _ _
def cuK (f : Nat → A) (k : Nat) : List (R8 32) := cutR 32 (fun j => u8of (f (0 + j))) k
theorem nm_cuR (f : Nat → UInt8) (k : Nat) : nm (cutR 32 f k) = (List.range k).map fun i => ⟨elR f (i * 32)⟩ := by
  unfold nm
  rw [cutR_len]
  refine List.map_congr_left fun i hi => ?_
  have hi := List.mem_range.1 hi
  congr 1
  unfold elL
  exact elR_congr fun j hj => cutR_at _ _ _ _ (by omega)
theorem row_cuK (f : Nat → A) (a : Nat → UInt8) (i : Nat) (h : ∀ j, j < 32 → f (i * 32 + j) = .u8 (a j)) : elR (fun j => u8of (f (0 + j))) (i * 32) = elR a 0 :=
  elR_congr fun j hj => by rw [Nat.zero_add, Nat.zero_add, h j hj]; rfl
theorem nm_pk1 (a : Nat → UInt8) : nm (cuK (pk1 a) 1) = [⟨elR a 0⟩] := by
  unfold cuK
  rw [nm_cuR]
  show [R8.mk _] = _
  rw [row_cuK (pk1 a) a 0 (fun j hj => by rw [pk1_eq, Nat.zero_mul, Nat.zero_add, lit1_at _ _ hj])]
theorem nm_pk2 (a b : Nat → UInt8) : nm (cuK (pk2 a b) (1 + 1)) = [⟨elR a 0⟩, ⟨elR b 0⟩] := by
  unfold cuK
  rw [nm_cuR]
  show [R8.mk _, R8.mk _] = _
  rw [row_cuK (pk2 a b) a 0 (fun j hj => by rw [pk2_eq, Nat.zero_mul, Nat.zero_add, if_pos hj, lit1_at _ _ hj]),
    row_cuK (pk2 a b) b 1 (fun j hj => by rw [pk2_eq, if_neg (by omega), Nat.one_mul, Nat.add_sub_cancel_left, lit1_at _ _ hj])]
theorem nm_pk3 (a b c : Nat → UInt8) : nm (cuK (pk3 a b c) (1 + 1 + 1)) = [⟨elR a 0⟩, ⟨elR b 0⟩, ⟨elR c 0⟩] := by
  unfold cuK
  rw [nm_cuR]
  show [R8.mk _, R8.mk _, R8.mk _] = _
  rw [row_cuK (pk3 a b c) a 0 (fun j hj => by rw [pk3_eq, Nat.zero_mul, Nat.zero_add, if_pos (by omega), pk2_eq, if_pos hj, lit1_at _ _ hj]),
    row_cuK (pk3 a b c) b 1 (fun j hj => by rw [pk3_eq, if_pos (by omega), pk2_eq, if_neg (by omega), Nat.one_mul, Nat.add_sub_cancel_left, lit1_at _ _ hj]),
    row_cuK (pk3 a b c) c 2 (fun j hj => by rw [pk3_eq, if_neg (by omega), show 2 * 32 = 64 from rfl, Nat.add_sub_cancel_left, lit1_at _ _ hj])]
/-- Where a round begins; how much is left. -/
def oN (n : Nat) : Nat := (extI false (n : Int) 32).toNat
theorem oN_eq (n : Nat) : oN n = min n 32 := by
  unfold oN extI
  simp only [Bool.false_eq_true, if_false]
  split <;> omega
/-- The chunks of bytes. -/
def chL (l : List UInt8) : List (R8 32) := (List.range ((l.length + 31) / 32)).map fun k => ⟨elR (splO l (k * 32) (l.length - k * 32)) 0⟩
theorem splO_row (l : List UInt8) {o m o' m' : Nat} (ho : o = o') (hm : min m 32 = min m' 32) : elR (splO l o m) 0 = elR (splO l o' m') 0 := by
  subst ho
  unfold splO
  rw [show 32 - 0 = 32 from rfl, hm]
def pkL (l : List UInt8) : List (R8 32) :=
  match decide ((l.length : Int) > 0) with
  | false => []
  | true => match decide (((l.length - oN l.length : Nat) : Int) > 0) with
    | false => cuK (pk1 (splO l 0 l.length)) 1
    | true => match decide (((l.length - oN l.length - oN (l.length - oN l.length) : Nat) : Int) > 0) with
      | false => cuK (pk2 (splO l 0 l.length) (splO l (oN l.length) (l.length - oN l.length))) (1 + 1)
      | true => cuK (pk3 (splO l 0 l.length) (splO l (oN l.length) (l.length - oN l.length)) (splO l (oN (l.length - oN l.length) + oN l.length) (l.length - oN l.length - oN (l.length - oN l.length)))) (1 + 1 + 1)
theorem nm_pkL {l : List UInt8} (h : l.length ≤ 96) : nm (pkL l) = chL l := by
  unfold pkL chL
  generalize hn : l.length = n at h
  by_cases h0 : n = 0
  · subst h0; rfl
  · rw [decide_eq_true (by omega)]
    by_cases h1 : n ≤ 32
    · rw [decide_eq_false (by rw [oN_eq]; omega)]
      simp only
      rw [nm_pk1, show (n + 31) / 32 = 1 by omega]
      show _ = [R8.mk _]
      rw [splO_row l (o := 0) (o' := 0 * 32) (m := n) (m' := n - 0 * 32) (by omega) (by omega)]
    · rw [decide_eq_true (by rw [oN_eq]; omega)]
      have e1 : oN n = 32 := by rw [oN_eq]; omega
      rw [e1]
      by_cases h2 : n ≤ 64
      · rw [decide_eq_false (by rw [oN_eq]; omega)]
        simp only
        rw [nm_pk2, show (n + 31) / 32 = 2 by omega]
        show _ = [R8.mk _, R8.mk _]
        rw [splO_row l (o := 0) (o' := 0 * 32) (m := n) (m' := n - 0 * 32) (by omega) (by omega), splO_row l (o := 32) (o' := 1 * 32) (m := n - 32) (m' := n - 1 * 32) (by omega) (by omega)]
      · rw [decide_eq_true (by rw [oN_eq]; omega)]
        have e2 : oN (n - 32) = 32 := by rw [oN_eq]; omega
        rw [e2]
        simp only
        rw [nm_pk3, show (n + 31) / 32 = 3 by omega]
        show _ = [R8.mk _, R8.mk _, R8.mk _]
        rw [splO_row l (o := 0) (o' := 0 * 32) (m := n) (m' := n - 0 * 32) (by omega) (by omega), splO_row l (o := 32) (o' := 1 * 32) (m := n - 32) (m' := n - 1 * 32) (by omega) (by omega), splO_row l (o := 32 + 32) (o' := 2 * 32) (m := n - 32 - 32) (m' := n - 2 * 32) (by omega) (by omega)]
/-- The reference's bound of a round. -/
def eN (k n : Nat) : Nat := (extI false ((k : Nat) : Int) (n : Int)).toNat
theorem eN_eq (k n : Nat) : eN k n = min k n := by
  unfold eN extI
  simp only [Bool.false_eq_true, if_false]
  split <;> omega
def pkR (l : List UInt8) : List (R8 32) :=
  match decide ((0 : Int) < (l.length : Int)) with
  | false => []
  | true => match decide ((32 : Int) < (l.length : Int)) with
    | false => cuK (pk1 (splO l 0 (eN 32 l.length - 0))) 1
    | true => match decide ((64 : Int) < (l.length : Int)) with
      | false => cuK (pk2 (splO l 0 (eN 32 l.length - 0)) (splO l 32 (eN 64 l.length - 32))) (1 + 1)
      | true => cuK (pk3 (splO l 0 (eN 32 l.length - 0)) (splO l 32 (eN 64 l.length - 32)) (splO l 64 (eN 96 l.length - 64))) (1 + 1 + 1)
theorem nm_pkR {l : List UInt8} (h : l.length ≤ 96) : nm (pkR l) = chL l := by
  unfold pkR chL
  generalize hn : l.length = n at h
  by_cases h0 : n = 0
  · subst h0; rfl
  · rw [decide_eq_true (by omega)]
    by_cases h1 : n ≤ 32
    · rw [decide_eq_false (by omega)]
      simp only
      rw [nm_pk1, show (n + 31) / 32 = 1 by omega]
      show _ = [R8.mk _]
      rw [splO_row l (o := 0) (o' := 0 * 32) (m := eN 32 n - 0) (m' := n - 0 * 32) (by omega) (by rw [eN_eq]; omega)]
    · rw [decide_eq_true (by omega)]
      by_cases h2 : n ≤ 64
      · rw [decide_eq_false (by omega)]
        simp only
        rw [nm_pk2, show (n + 31) / 32 = 2 by omega]
        show _ = [R8.mk _, R8.mk _]
        rw [splO_row l (o := 0) (o' := 0 * 32) (m := eN 32 n - 0) (m' := n - 0 * 32) (by omega) (by rw [eN_eq]; omega), splO_row l (o := 32) (o' := 1 * 32) (m := eN 64 n - 32) (m' := n - 1 * 32) (by omega) (by rw [eN_eq]; omega)]
      · rw [decide_eq_true (by omega)]
        simp only
        rw [nm_pk3, show (n + 31) / 32 = 3 by omega]
        show _ = [R8.mk _, R8.mk _, R8.mk _]
        rw [splO_row l (o := 0) (o' := 0 * 32) (m := eN 32 n - 0) (m' := n - 0 * 32) (by omega) (by rw [eN_eq]; omega), splO_row l (o := 32) (o' := 1 * 32) (m := eN 64 n - 32) (m' := n - 1 * 32) (by omega) (by rw [eN_eq]; omega), splO_row l (o := 64) (o' := 2 * 32) (m := eN 96 n - 64) (m' := n - 2 * 32) (by omega) (by rw [eN_eq]; omega)]
theorem chL_len (l : List UInt8) : (chL l).length = (l.length + 31) / 32 := by simp [chL]
theorem pkL_len {l : List UInt8} (h : l.length ≤ 96) : (pkL l).length = (l.length + 31) / 32 := by rw [← nm_len, nm_pkL h, chL_len]
theorem pkR_len {l : List UInt8} (h : l.length ≤ 96) : (pkR l).length = (l.length + 31) / 32 := by rw [← nm_len, nm_pkR h, chL_len]
end Go.Sh
namespace Go.Proofs.YtaloefkkllebeaaDoor
open Go Go.Sh
def pkO (k : Nat) : Nat → Nat → Dec := fun rd t => match Nat.beq t 7 with | true => .take (Nat.ble rd k) | false => .keep
def pkP (k : Nat) : Nat → Nat → Dec := fun rd t => match Nat.beq t 9 with | true => .take (Nat.ble rd k) | false => .keep
theorem pack_ok : Computes A Tryd.prog 93 (fun x : Bv × Unit => (⟨pkL x.1.l⟩ : Rz 32)) := by
  refine computes_of_run (TblOK.nil _) Tryd.func93 (by kernel_rfl) (by kernel_rfl) 20 ?_
  rintro ⟨g, _⟩ ⟨⟨l⟩, ⟨⟩⟩ W ⟨⟨hg, hn⟩, _⟩
  have hN : l.length ≤ 96 := hn
  have rd : ∀ o m, o + m ≤ l.length → Reads W.cell? g.a (byteAt (B := FB) l) o m := fun o m h => reads_bytes hg h
  have ext : ∀ n : Nat, 0 ≤ extI false ((n : Nat) : Int) 32 ∧ extI false ((n : Nat) : Int) 32 ≤ ((n : Nat) : Int) := fun n => by
    unfold extI
    simp only [Bool.false_eq_true, if_false]
    split <;> omega
  show ∃ orc y vc, _ ∧ _ ∧ y = (⟨pkL l⟩ : Rz 32)
  unfold pkL
  cases h0 : decide (((l.length : Nat) : Int) > 0) with
  | false => exact ⟨pkO 0, ⟨[]⟩, [decide (((l.length : Nat) : Int) > 0) = false], by kernel_rfl, ⟨h0, trivial⟩, rfl⟩
  | true =>
    cases h1 : decide (((l.length - oN l.length : Nat) : Int) > 0) with
    | false => exact ⟨pkO 1, ⟨cuK (pk1 (splO l 0 l.length)) (1)⟩, [∀ j, j < (1) * 32 → isU8 ((pk1 (splO l 0 l.length)) (0 + j)) = true, decide (((l.length - oN l.length : Nat) : Int) > 0) = false, 0 ≤ extI false ((l.length : Nat) : Int) 32 ∧ extI false ((l.length : Nat) : Int) 32 ≤ ((l.length : Nat) : Int), Sh.Bears 1 32, ∀ j, j < min (l.length) (32 - 0) → ∃ x, (fun q => byteAt (B := FB) l (0 + q)) j = .u8 x, Reads W.cell? g.a (byteAt (B := FB) l) (0) (l.length), decide (((l.length : Nat) : Int) > 0) = true], by kernel_rfl, ⟨fun j _ => pk1_u8 _ _, h1, ext _, by unfold Sh.Bears maxLen; omega, fun j _ => ⟨_, rfl⟩, rd _ _ (by first | omega | (simp only [oN_eq]; omega)), h0, trivial⟩, rfl⟩
    | true =>
      cases h2 : decide (((l.length - oN l.length - oN (l.length - oN l.length) : Nat) : Int) > 0) with
      | false => exact ⟨pkO 2, ⟨cuK (pk2 (splO l 0 l.length) (splO l (oN l.length) (l.length - oN l.length))) (1 + 1)⟩, [∀ j, j < (1 + 1) * 32 → isU8 ((pk2 (splO l 0 l.length) (splO l (oN l.length) (l.length - oN l.length))) (0 + j)) = true, decide (((l.length - oN l.length - oN (l.length - oN l.length) : Nat) : Int) > 0) = false, 0 ≤ extI false ((l.length - oN l.length : Nat) : Int) 32 ∧ extI false ((l.length - oN l.length : Nat) : Int) 32 ≤ ((l.length - oN l.length : Nat) : Int), 1 = 1 ∧ timesN 1 (31 + 1) = timesN 1 (31 + 1) ∧ Sh.Bears (1 + 1) 32, ∀ j, j < min (l.length - oN l.length) (32 - 0) → ∃ x, (fun q => byteAt (B := FB) l (oN l.length + q)) j = .u8 x, Reads W.cell? g.a (byteAt (B := FB) l) (oN l.length) (l.length - oN l.length), decide (((l.length - oN l.length : Nat) : Int) > 0) = true, 0 ≤ extI false ((l.length : Nat) : Int) 32 ∧ extI false ((l.length : Nat) : Int) 32 ≤ ((l.length : Nat) : Int), Sh.Bears 1 32, ∀ j, j < min (l.length) (32 - 0) → ∃ x, (fun q => byteAt (B := FB) l (0 + q)) j = .u8 x, Reads W.cell? g.a (byteAt (B := FB) l) (0) (l.length), decide (((l.length : Nat) : Int) > 0) = true], by kernel_rfl, ⟨fun j _ => pk2_u8 _ _ _, h2, ext _, ⟨rfl, rfl, by unfold Sh.Bears maxLen; omega⟩, fun j _ => ⟨_, rfl⟩, rd _ _ (by first | omega | (simp only [oN_eq]; omega)), h1, ext _, by unfold Sh.Bears maxLen; omega, fun j _ => ⟨_, rfl⟩, rd _ _ (by first | omega | (simp only [oN_eq]; omega)), h0, trivial⟩, rfl⟩
      | true =>
        have h3 : decide (((l.length - oN l.length - oN (l.length - oN l.length) - oN (l.length - oN l.length - oN (l.length - oN l.length)) : Nat) : Int) > 0) = false := decide_eq_false (by simp only [oN_eq]; omega)
        exact ⟨pkO 3, ⟨cuK (pk3 (splO l 0 l.length) (splO l (oN l.length) (l.length - oN l.length)) (splO l (oN (l.length - oN l.length) + oN l.length) (l.length - oN l.length - oN (l.length - oN l.length)))) (1 + 1 + 1)⟩, [∀ j, j < (1 + 1 + 1) * 32 → isU8 ((pk3 (splO l 0 l.length) (splO l (oN l.length) (l.length - oN l.length)) (splO l (oN (l.length - oN l.length) + oN l.length) (l.length - oN l.length - oN (l.length - oN l.length)))) (0 + j)) = true, decide (((l.length - oN l.length - oN (l.length - oN l.length) - oN (l.length - oN l.length - oN (l.length - oN l.length)) : Nat) : Int) > 0) = false, 0 ≤ extI false ((l.length - oN l.length - oN (l.length - oN l.length) : Nat) : Int) 32 ∧ extI false ((l.length - oN l.length - oN (l.length - oN l.length) : Nat) : Int) 32 ≤ ((l.length - oN l.length - oN (l.length - oN l.length) : Nat) : Int), 1 + 1 = 1 + 1 ∧ timesN (1 + 1) (31 + 1) = timesN 1 (31 + 1) + timesN 1 (31 + 1) ∧ Sh.Bears (1 + 1 + 1) 32, ∀ j, j < min (l.length - oN l.length - oN (l.length - oN l.length)) (32 - 0) → ∃ x, (fun q => byteAt (B := FB) l (oN (l.length - oN l.length) + oN l.length + q)) j = .u8 x, Reads W.cell? g.a (byteAt (B := FB) l) (oN (l.length - oN l.length) + oN l.length) (l.length - oN l.length - oN (l.length - oN l.length)), decide (((l.length - oN l.length - oN (l.length - oN l.length) : Nat) : Int) > 0) = true, 0 ≤ extI false ((l.length - oN l.length : Nat) : Int) 32 ∧ extI false ((l.length - oN l.length : Nat) : Int) 32 ≤ ((l.length - oN l.length : Nat) : Int), 1 = 1 ∧ timesN 1 (31 + 1) = timesN 1 (31 + 1) ∧ Sh.Bears (1 + 1) 32, ∀ j, j < min (l.length - oN l.length) (32 - 0) → ∃ x, (fun q => byteAt (B := FB) l (oN l.length + q)) j = .u8 x, Reads W.cell? g.a (byteAt (B := FB) l) (oN l.length) (l.length - oN l.length), decide (((l.length - oN l.length : Nat) : Int) > 0) = true, 0 ≤ extI false ((l.length : Nat) : Int) 32 ∧ extI false ((l.length : Nat) : Int) 32 ≤ ((l.length : Nat) : Int), Sh.Bears 1 32, ∀ j, j < min (l.length) (32 - 0) → ∃ x, (fun q => byteAt (B := FB) l (0 + q)) j = .u8 x, Reads W.cell? g.a (byteAt (B := FB) l) (0) (l.length), decide (((l.length : Nat) : Int) > 0) = true], by kernel_rfl, ⟨fun j _ => pk3_u8 _ _ _ _, h3, ext _, ⟨rfl, rfl, by unfold Sh.Bears maxLen; omega⟩, fun j _ => ⟨_, rfl⟩, rd _ _ (by first | omega | (simp only [oN_eq]; omega)), h2, ext _, ⟨rfl, rfl, by unfold Sh.Bears maxLen; omega⟩, fun j _ => ⟨_, rfl⟩, rd _ _ (by first | omega | (simp only [oN_eq]; omega)), h1, ext _, by unfold Sh.Bears maxLen; omega, fun j _ => ⟨_, rfl⟩, rd _ _ (by first | omega | (simp only [oN_eq]; omega)), h0, trivial⟩, rfl⟩
theorem refPack_ok : Computes A Tryd.prog 121 (fun x : Bv × Unit => (⟨pkR x.1.l⟩ : Rz 32)) := by
  refine computes_of_run (TblOK.nil _) Tryd.func121 (by kernel_rfl) (by kernel_rfl) 20 ?_
  rintro ⟨g, _⟩ ⟨⟨l⟩, ⟨⟩⟩ W ⟨⟨hg, hn⟩, _⟩
  have hN : l.length ≤ 96 := hn
  have hG : HasBytes W l g := hg
  have hgc := hG.1
  have rd : ∀ o m, o + m ≤ l.length → Reads W.cell? g.a (byteAt (B := FB) l) o m := fun o m h => reads_bytes hg h
  have hx : ∀ k : Nat, 0 ≤ extI false ((k : Nat) : Int) (l.length : Int) ∧ extI false ((k : Nat) : Int) (l.length : Int) ≤ (g.c : Int) := fun k => by
    unfold extI
    simp only [Bool.false_eq_true, if_false]
    split <;> omega
  show ∃ orc y vc, _ ∧ _ ∧ y = (⟨pkR l⟩ : Rz 32)
  unfold pkR
  cases h0 : decide ((0 : Int) < (l.length : Int)) with
  | false => exact ⟨pkP 0, ⟨[]⟩, [decide ((0 : Int) < (l.length : Int)) = false], by kernel_rfl, ⟨h0, trivial⟩, rfl⟩
  | true =>
    cases h1 : decide ((32 : Int) < (l.length : Int)) with
    | false => exact ⟨pkP 1, ⟨cuK (pk1 (splO l 0 (eN 32 l.length - 0))) (1)⟩, [∀ j, j < (1) * 32 → isU8 ((pk1 (splO l 0 (eN 32 l.length - 0))) (0 + j)) = true, decide ((32 : Int) < (l.length : Int)) = false, Sh.Bears 1 32, ∀ j, j < min (eN 32 l.length - 0) (32 - 0) → ∃ x, (fun q => byteAt (B := FB) l (0 + q)) j = .u8 x, Reads W.cell? g.a (byteAt (B := FB) l) 0 (eN 32 l.length - 0), ((0 : Int) ≤ ((0 : Nat) : Int) ∧ ((0 : Nat) : Int) ≤ ((eN 32 l.length : Nat) : Int)), (0 ≤ extI false ((32 : Nat) : Int) (l.length : Int) ∧ extI false ((32 : Nat) : Int) (l.length : Int) ≤ (g.c : Int)), decide ((0 : Int) < (l.length : Int)) = true], by kernel_rfl, ⟨fun j _ => pk1_u8 _ _, h1, by unfold Sh.Bears maxLen; omega, fun j _ => ⟨_, rfl⟩, rd _ _ (by rw [eN_eq]; have := of_decide_eq_true h0; omega), ⟨by omega, by rw [eN_eq]; have := of_decide_eq_true h0; omega⟩, hx 32, h0, trivial⟩, rfl⟩
    | true =>
      cases h2 : decide ((64 : Int) < (l.length : Int)) with
      | false => exact ⟨pkP 2, ⟨cuK (pk2 (splO l 0 (eN 32 l.length - 0)) (splO l 32 (eN 64 l.length - 32))) (1 + 1)⟩, [∀ j, j < (1 + 1) * 32 → isU8 ((pk2 (splO l 0 (eN 32 l.length - 0)) (splO l 32 (eN 64 l.length - 32))) (0 + j)) = true, decide ((64 : Int) < (l.length : Int)) = false, 1 = 1 ∧ timesN 1 (31 + 1) = timesN 1 (31 + 1) ∧ Sh.Bears (1 + 1) 32, ∀ j, j < min (eN 64 l.length - 32) (32 - 0) → ∃ x, (fun q => byteAt (B := FB) l (32 + q)) j = .u8 x, Reads W.cell? g.a (byteAt (B := FB) l) 32 (eN 64 l.length - 32), ((0 : Int) ≤ ((32 : Nat) : Int) ∧ ((32 : Nat) : Int) ≤ ((eN 64 l.length : Nat) : Int)), (0 ≤ extI false ((64 : Nat) : Int) (l.length : Int) ∧ extI false ((64 : Nat) : Int) (l.length : Int) ≤ (g.c : Int)), decide ((32 : Int) < (l.length : Int)) = true, Sh.Bears 1 32, ∀ j, j < min (eN 32 l.length - 0) (32 - 0) → ∃ x, (fun q => byteAt (B := FB) l (0 + q)) j = .u8 x, Reads W.cell? g.a (byteAt (B := FB) l) 0 (eN 32 l.length - 0), ((0 : Int) ≤ ((0 : Nat) : Int) ∧ ((0 : Nat) : Int) ≤ ((eN 32 l.length : Nat) : Int)), (0 ≤ extI false ((32 : Nat) : Int) (l.length : Int) ∧ extI false ((32 : Nat) : Int) (l.length : Int) ≤ (g.c : Int)), decide ((0 : Int) < (l.length : Int)) = true], by kernel_rfl, ⟨fun j _ => pk2_u8 _ _ _, h2, ⟨rfl, rfl, by unfold Sh.Bears maxLen; omega⟩, fun j _ => ⟨_, rfl⟩, rd _ _ (by rw [eN_eq]; have := of_decide_eq_true h1; omega), ⟨by omega, by rw [eN_eq]; have := of_decide_eq_true h1; omega⟩, hx 64, h1, by unfold Sh.Bears maxLen; omega, fun j _ => ⟨_, rfl⟩, rd _ _ (by rw [eN_eq]; have := of_decide_eq_true h0; omega), ⟨by omega, by rw [eN_eq]; have := of_decide_eq_true h0; omega⟩, hx 32, h0, trivial⟩, rfl⟩
      | true =>
        have h3 : decide ((96 : Int) < (l.length : Int)) = false := decide_eq_false (by omega)
        exact ⟨pkP 3, ⟨cuK (pk3 (splO l 0 (eN 32 l.length - 0)) (splO l 32 (eN 64 l.length - 32)) (splO l 64 (eN 96 l.length - 64))) (1 + 1 + 1)⟩, [∀ j, j < (1 + 1 + 1) * 32 → isU8 ((pk3 (splO l 0 (eN 32 l.length - 0)) (splO l 32 (eN 64 l.length - 32)) (splO l 64 (eN 96 l.length - 64))) (0 + j)) = true, decide ((96 : Int) < (l.length : Int)) = false, 1 + 1 = 1 + 1 ∧ timesN (1 + 1) (31 + 1) = timesN 1 (31 + 1) + timesN 1 (31 + 1) ∧ Sh.Bears (1 + 1 + 1) 32, ∀ j, j < min (eN 96 l.length - 64) (32 - 0) → ∃ x, (fun q => byteAt (B := FB) l (64 + q)) j = .u8 x, Reads W.cell? g.a (byteAt (B := FB) l) 64 (eN 96 l.length - 64), ((0 : Int) ≤ ((64 : Nat) : Int) ∧ ((64 : Nat) : Int) ≤ ((eN 96 l.length : Nat) : Int)), (0 ≤ extI false ((96 : Nat) : Int) (l.length : Int) ∧ extI false ((96 : Nat) : Int) (l.length : Int) ≤ (g.c : Int)), decide ((64 : Int) < (l.length : Int)) = true, 1 = 1 ∧ timesN 1 (31 + 1) = timesN 1 (31 + 1) ∧ Sh.Bears (1 + 1) 32, ∀ j, j < min (eN 64 l.length - 32) (32 - 0) → ∃ x, (fun q => byteAt (B := FB) l (32 + q)) j = .u8 x, Reads W.cell? g.a (byteAt (B := FB) l) 32 (eN 64 l.length - 32), ((0 : Int) ≤ ((32 : Nat) : Int) ∧ ((32 : Nat) : Int) ≤ ((eN 64 l.length : Nat) : Int)), (0 ≤ extI false ((64 : Nat) : Int) (l.length : Int) ∧ extI false ((64 : Nat) : Int) (l.length : Int) ≤ (g.c : Int)), decide ((32 : Int) < (l.length : Int)) = true, Sh.Bears 1 32, ∀ j, j < min (eN 32 l.length - 0) (32 - 0) → ∃ x, (fun q => byteAt (B := FB) l (0 + q)) j = .u8 x, Reads W.cell? g.a (byteAt (B := FB) l) 0 (eN 32 l.length - 0), ((0 : Int) ≤ ((0 : Nat) : Int) ∧ ((0 : Nat) : Int) ≤ ((eN 32 l.length : Nat) : Int)), (0 ≤ extI false ((32 : Nat) : Int) (l.length : Int) ∧ extI false ((32 : Nat) : Int) (l.length : Int) ≤ (g.c : Int)), decide ((0 : Int) < (l.length : Int)) = true], by kernel_rfl, ⟨fun j _ => pk3_u8 _ _ _ _, h3, ⟨rfl, rfl, by unfold Sh.Bears maxLen; omega⟩, fun j _ => ⟨_, rfl⟩, rd _ _ (by rw [eN_eq]; have := of_decide_eq_true h2; omega), ⟨by omega, by rw [eN_eq]; have := of_decide_eq_true h2; omega⟩, hx 96, h2, ⟨rfl, rfl, by unfold Sh.Bears maxLen; omega⟩, fun j _ => ⟨_, rfl⟩, rd _ _ (by rw [eN_eq]; have := of_decide_eq_true h1; omega), ⟨by omega, by rw [eN_eq]; have := of_decide_eq_true h1; omega⟩, hx 64, h1, by unfold Sh.Bears maxLen; omega, fun j _ => ⟨_, rfl⟩, rd _ _ (by rw [eN_eq]; have := of_decide_eq_true h0; omega), ⟨by omega, by rw [eN_eq]; have := of_decide_eq_true h0; omega⟩, hx 32, h0, trivial⟩, rfl⟩
end Go.Proofs.YtaloefkkllebeaaDoor

/- Roots: an aggregate's, by the program and by the reference. -/
namespace Go.Proofs.YtaloefkkllebeaaDoor
open Go Go.Sh
noncomputable def tblAg (pre post : St A) (Pk : List UInt8 → List (R8 32)) (Of : List (R8 32) → R8 32) : List (Row A) := [wBits pre post, wAll, rowOf A 93 (fun x : Bv × Unit => (⟨Pk x.1.l⟩ : Rz 32)), rowOf A 92 (fun x : GA (Rt 32 × Unit) => Of x.x.1.l)]
/-- What the writer holds. -/
def wrF (n : Nat) (f : Nat → UInt8) : Nat → A := catF (fun _ => Atom.dummy) (timesN 0 (0 + 1)) (fun j => (Atom.get (At.z8 n f : A) j).getD Atom.dummy) 0
def agM1 (g : Spot) (l : List Bool) (s : Nat → UInt8) (n : Nat) (f : Nat → UInt8) : Mem A :=
  [some ⟨[boE g l, .a (.w8 96 s)], 71, false⟩, some ⟨zer8 32, 46, false⟩, some ⟨[.mk 1 (0 + timesN n (0 + 1))], 5, false⟩, some ⟨[.gr (wrF n f) 2 1 (0 + n) 1], 153, false⟩, some ⟨[.a (.z8 n f)], 5, false⟩]
def wrL (n : Nat) (f : Nat → UInt8) : List UInt8 := (List.range (0 + n)).map fun j => u8of ((fun q => wrF n f (0 + q)) (0 + j))
def sgL (s : Nat → UInt8) : List UInt8 := (List.range 96).map s
theorem wrF_at (n : Nat) (f : Nat → UInt8) (j : Nat) : wrF n f j = .u8 (f j) := by
  unfold wrF
  simp only [catF]
  have e : timesN 0 (0 + 1) = 0 := rfl
  rw [e]
  have hb : j.blt 0 = false := by rw [Bool.eq_false_iff, ne_eq, Nat.blt_eq]; omega
  rw [hb]
  show (Atom.get (At.z8 n f : A) (0 + (j - 0))).getD Atom.dummy = _
  rw [Nat.zero_add, Nat.sub_zero]
  rfl
theorem wrL_eq (n : Nat) (f : Nat → UInt8) : wrL n f = (List.range n).map f := by
  unfold wrL
  rw [Nat.zero_add]
  refine List.map_congr_left fun j _ => ?_
  show u8of (wrF n f (0 + (0 + j))) = _
  rw [Nat.zero_add, Nat.zero_add, wrF_at]
  rfl
theorem wrL_len (n : Nat) (f : Nat → UInt8) : (wrL n f).length = n := by simp [wrL]
theorem sgL_len (s : Nat → UInt8) : (sgL s).length = 96 := by simp [sgL]
/-- Two rows of a block. -/
def twS (a b : Nat → UInt8) : List (R8 32) := cutR 32 (pickN 0 ((List.range 32).map a ++ (List.range 32).map b)) 2
theorem twS_len (a b : Nat → UInt8) : (twS a b).length = 2 := cutR_len _ _ _
theorem nm_twS (a b : Nat → UInt8) : nm (twS a b) = [⟨elR a 0⟩, ⟨elR b 0⟩] := by kernel_rfl
def aggF (Pk : List UInt8 → List (R8 32)) (Of : List (R8 32) → R8 32) (x : List UInt8) (s : Nat → UInt8) : R8 32 := Of (twS (Of (lC (Pk x))).f (Of (lC (Pk (sgL s)))).f)
theorem aggregate_of {Pk : List UInt8 → List (R8 32)} {Of : List (R8 32) → R8 32} (ht : TblOK Tryd.prog [rowOf A 93 (fun x : Bv × Unit => (⟨Pk x.1.l⟩ : Rz 32)), rowOf A 92 (fun x : GA (Rt 32 × Unit) => Of x.x.1.l)])
    (hPk : ∀ l, l.length ≤ 96 → (Pk l).length < 1048576) : Computes A Tryd.prog 49 (fun x : GA (Ag × Unit) => aggF Pk Of (bitsL x.x.1.bits) x.x.1.sig.f) := by
  refine computes_of_runT Tryd.func49 (by kernel_rfl) (by kernel_rfl) 20 ?_
  rintro ⟨g, _⟩ ⟨⟨⟨l, ⟨s⟩⟩, ⟨⟩⟩⟩ W ⟨hr, ⟨hg, hn⟩, _⟩
  have hG : HasBools W l g := hg
  have hN : l.length ≤ 512 := hn
  have q2 : ((l.length : Int) + 7).tdiv 8 = (((l.length + 7) / 8 : Nat) : Int) := rfl
  have hs := agLoop W g l s hG (by omega)
  have hB : nB l ≤ 96 := by rw [nB_eq]; omega
  have eL : bitsL l = wrL (nB l) (bfN l l.length) := (wrL_eq _ _).symm
  show ∃ tbl its, _ ∧ _ ∧ ∃ orc lp y vc, _ ∧ _ ∧ y = aggF Pk Of (bitsL l) s ∧ _
  rw [eL]
  revert hs
  generalize bfN l l.length = f
  intro hs
  have c1 := hPk (wrL (nB l) f) (by rw [wrL_len]; exact hB)
  have c2 := hPk (sgL s) (by rw [sgL_len]; decide)
  refine ⟨tblAg (agS g l s (nB l) (bfN l 0) 0) (agS g l s (nB l) f l.length) Pk Of, [], .cons (wBits_ok _ _) (.cons wAll_ok ht), ITblOK.nil _, orAg, noLoop, aggF Pk Of (wrL (nB l) f) s,
    [RoundsIn W.cell?, (twS (Of (lC (Pk (wrL (nB l) f)))).f (Of (lC (Pk (sgL s)))).f).length < 1048576, RoundsIn W.cell?, (lC (Pk (sgL s))).length < 1048576, lU (Pk (sgL s)), (sgL s).length ≤ 96, RoundsIn W.cell?, (lC (Pk (wrL (nB l) f))).length < 1048576, lU (Pk (wrL (nB l) f)), (wrL (nB l) f).length ≤ 96,
      ∀ j, j < 0 + nB l → isU8 ((fun q => wrF (nB l) f (0 + q)) (0 + j)) = true, agM1 g l s (nB l) f = agM1 g l s (nB l) f, Sh.Bears (0 + nB l) 1, ∀ body, Tryd.f98.body = some body → LoopsFor Tryd.prog W.cell? [] (lps [(2, agS g l s (nB l) (bfN l 0) 0, .exit 0, agS g l s (nB l) f l.length)]) body,
      0 = 0 ∧ timesN 0 (0 + 1) = 0 ∧ Sh.Bears (0 + nB l) 1, timesN (nB l) (0 + 1) = nB l, ∀ j, j < nB l → (Atom.get (At.z8 (nB l) f : A) j).isSome = true, ToldIs (agS g l s (nB l) (bfN l 0) 0),
      Makes 1 (((l.length : Int) + 7).tdiv 8) (((l.length : Int) + 7).tdiv 8), WrapI (((l.length : Int) + 7).tdiv 8), WrapI ((l.length : Int) + 7)], by kernel_rfl,
    ⟨hr, by rw [twS_len]; decide, hr, by rw [lC_len]; exact c2, lU_ok _, by rw [sgL_len]; decide, hr, by rw [lC_len]; exact c1, lU_ok _, by rw [wrL_len]; exact hB, fun j _ => (by show isU8 (wrF (nB l) f (0 + (0 + j))) = true; rw [wrF_at]; rfl), rfl, by unfold Sh.Bears maxLen; omega, fun body hb => ?_,
      ⟨rfl, rfl, by unfold Sh.Bears maxLen; omega⟩, by rw [timesN_eq]; omega, fun j _ => rfl, toldIs _, ⟨rfl, by rw [q2]; omega, by rw [q2]; omega, by rw [q2]; omega⟩, wI (by rw [q2]; omega) (by rw [q2]; omega), wI (by omega) (by omega), trivial⟩, rfl, fun body _ => loopsFor_none⟩
  obtain rfl := Option.some.inj hb
  exact LoopsFor.cons (by kernel_rfl) hs LoopsFor.nil
/-- An aggregate's root. -/
def aggV (Pr : R8 32 → R8 32 → R8 32) (x : Ag) : R8 32 := aggF pkL (ofV (rootV Pr)) (bitsL x.bits) x.sig.f
theorem aggregate_ok : Computes A Tryd.prog 49 (fun x : GA (Ag × Unit) => aggV pairR8 x.x.1) :=
  aggregate_of (Pk := pkL) (Of := ofV (rootV pairR8)) (.cons pack_ok.row (.cons of_ok.row (.nil _))) (fun l h => by rw [pkL_len h]; omega)
/-! ### The reference's -/
noncomputable def tblRb (Pk : List UInt8 → List (R8 32)) (T : List (R8 32) → Nat → R8 32) : List (Row A) :=
  [rowOf A 121 (fun x : Bv × Unit => (⟨Pk x.1.l⟩ : Rz 32)), rowOf A 46 (fun x : Int × Unit => ((depQ x.1 : Nat) : Int)), rowOf A 45 (fun x : Hs Mk × Rt 32 × Dp 62 × Unit => T x.2.1.l x.2.2.1.n)]
def refBytesV (Pk : List UInt8 → List (R8 32)) (T : List (R8 32) → Nat → R8 32) (l : List UInt8) : R8 32 := T (lC (Pk l)) (depQ ((Pk l).length : Int))
/-- Bytes, one by one. -/
def cB (l : List UInt8) : List UInt8 := (List.range l.length).map fun j => u8of (byteAt (B := FB) l (0 + j))
theorem cB_eq (l : List UInt8) : cB l = l := by
  unfold cB
  apply List.ext_getElem?
  intro j
  rw [List.getElem?_map]
  rcases Nat.lt_or_ge j l.length with h | h
  · rw [List.getElem?_range h, List.getElem?_eq_getElem h]
    show some (l.getD (0 + j) 0) = _
    rw [Nat.zero_add, List.getD_eq_getElem?_getD, List.getElem?_eq_getElem h]
    rfl
  · rw [List.getElem?_eq_none (by simpa using h), List.getElem?_eq_none h]
    rfl
theorem refBytes_of {Pk : List UInt8 → List (R8 32)} {T : List (R8 32) → Nat → R8 32} (ht : TblOK Tryd.prog (tblRb Pk T)) (hPk : ∀ l, l.length ≤ 96 → (Pk l).length < 1048576) :
    Computes A Tryd.prog 97 (fun x : Hs Mk × Bv × Unit => refBytesV Pk T x.2.1.l) := by
  refine computes_of_run ht Tryd.func97 (by kernel_rfl) (by kernel_rfl) 6 ?_
  rintro ⟨a, g, _⟩ ⟨⟨m⟩, ⟨l⟩, ⟨⟩⟩ W ⟨ha, ⟨hg, hn⟩, _⟩
  have hN : l.length ≤ 96 := hn
  have rt : ReadT W.cell? a 0 72 := by
    intro b hb j hj
    obtain rfl := Option.some.inj hb
    exact ha (0 + j) (show 0 + j < 72 by omega)
  have rd : Reads W.cell? g.a (byteAt (B := FB) l) 0 l.length := reads_bytes hg (Nat.le_of_eq (Nat.zero_add _))
  have hd := depQ_le ((Pk (cB l)).length : Int)
  show ∃ orc y vc, _ ∧ _ ∧ y = refBytesV Pk T l
  refine ⟨saysY [], refBytesV Pk T (cB l), [ReadT W.cell? a 0 72, TabsAre, (lC (Pk (cB l))).length < 1048576, lU (Pk (cB l)), (0 : Int) ≤ (depQ ((Pk (cB l)).length : Int) : Int) ∧ (depQ ((Pk (cB l)).length : Int) : Int) ≤ ((62 : Nat) : Int), (cB l).length ≤ 96, Reads W.cell? g.a (byteAt (B := FB) l) 0 l.length, ∀ j, j < l.length → isU8 (byteAt (B := FB) l (0 + j)) = true], by kernel_rfl,
    ⟨rt, tabsAre, by rw [lC_len]; exact hPk _ (by rw [cB_eq]; exact hN), lU_ok _, by omega, by rw [cB_eq]; exact hN, rd, fun _ _ => rfl, trivial⟩, by rw [cB_eq]⟩
end Go.Proofs.YtaloefkkllebeaaDoor

/- Roots: a key's and an aggregate's by the reference; the law of parts. -/
namespace Go.Proofs.YtaloefkkllebeaaDoor
open Go Go.Sh
/-- The root of bytes. -/
def rtL (Pr : R8 32 → R8 32 → R8 32) (l : List UInt8) : R8 32 := treeT Pr zR (chL l) (depQ ((chL l).length : Int))
theorem ofPk (Pr : R8 32 → R8 32 → R8 32) {l : List UInt8} (h : l.length ≤ 96) : ofV (rootV Pr) (lC (pkL l)) = rtL Pr l := by
  rw [ofV_tree, lC_len]
  unfold treeN rtL
  rw [nm_lC, nm_pkL h, pkL_len h, chL_len]
theorem refPk (Pr : R8 32 → R8 32 → R8 32) {l : List UInt8} (h : l.length ≤ 96) : refBytesV pkR (treeN Pr) l = rtL Pr l := by
  unfold refBytesV treeN rtL
  rw [nm_lC, nm_pkR h, pkR_len h, chL_len]
theorem refBytes_ok' : Computes A Tryd.prog 97 (fun x : Hs Mk × Bv × Unit => refBytesV pkR (treeN pairR8) x.2.1.l) :=
  refBytes_of (Pk := pkR) (T := treeN pairR8) (.cons refPack_ok.row (.cons refDepth_ok.row (.cons tree_ok.row (.nil _)))) (fun l h => by rw [pkR_len h]; omega)
noncomputable def tblRk (B : List UInt8 → R8 32) : List (Row A) := [rowOf A 97 (fun x : Hs Mk × Bv × Unit => B x.2.1.l)]
def k48 (f : Nat → UInt8) : List UInt8 := (List.range 48).map f
noncomputable def tblRa (Bi : List Bool → List UInt8) (B : List UInt8 → R8 32) (Tv : List (R8 32) → R8 32) : List (Row A) :=
  [rowOf A 100 (fun x : Bo × Unit => (⟨Bi x.1.l⟩ : Bz)), rowOf A 97 (fun x : Hs Mk × Bv × Unit => B x.2.1.l), rowOf A 96 (fun x : Hs Mk × Rt 32 × Unit => Tv x.2.1.l)]
theorem k48_len (f : Nat → UInt8) : (k48 f).length = 48 := by simp [k48]
def cutL (l : List Bool) : List Bool := cutBo (boAt l) 0 l.length
theorem cutL_eq (l : List Bool) : cutL l = l := by
  unfold cutL cutBo
  apply List.ext_getElem?
  intro j
  rw [List.getElem?_map]
  rcases Nat.lt_or_ge j l.length with h | h
  · rw [List.getElem?_range h, List.getElem?_eq_getElem h]
    show some (l.getD (0 + j) false) = _
    rw [Nat.zero_add, List.getD_eq_getElem?_getD, List.getElem?_eq_getElem h]
    rfl
  · rw [List.getElem?_eq_none (by simpa using h), List.getElem?_eq_none h]
    rfl
theorem refKey_of {B : List UInt8 → R8 32} (ht : TblOK Tryd.prog (tblRk B)) : Computes A Tryd.prog 48 (fun x : Hs Mk × R8 48 × Unit => B (k48 x.2.1.f)) := by
  refine computes_of_run ht Tryd.func48 (by kernel_rfl) (by kernel_rfl) 6 ?_
  rintro ⟨a, _⟩ ⟨⟨m⟩, ⟨f⟩, ⟨⟩⟩ W ⟨ha, _⟩
  have rt : ReadT W.cell? a 0 72 := by
    intro b hb j hj
    obtain rfl := Option.some.inj hb
    exact ha (0 + j) (show 0 + j < 72 by omega)
  exact ⟨saysY [], B (k48 f), [ReadT W.cell? a 0 72, TabsAre, (k48 f).length ≤ 96], by kernel_rfl, ⟨rt, tabsAre, by rw [k48_len]; decide, trivial⟩, rfl⟩
def refAggF (Bi : List Bool → List UInt8) (B : List UInt8 → R8 32) (Tv : List (R8 32) → R8 32) (l : List Bool) (s : Nat → UInt8) : R8 32 := Tv (twL (B (cB (Bi l))).f (B (sgL s)).f)
theorem refAggregate_of {Bi : List Bool → List UInt8} {B : List UInt8 → R8 32} {Tv : List (R8 32) → R8 32} (ht : TblOK Tryd.prog (tblRa Bi B Tv)) (hB : ∀ l, l.length ≤ 512 → (Bi l).length ≤ 96) :
    Computes A Tryd.prog 50 (fun x : Hs Mk × Ag × Unit => refAggF Bi B Tv x.2.1.bits x.2.1.sig.f) := by
  refine computes_of_run ht Tryd.func50 (by kernel_rfl) (by kernel_rfl) 6 ?_
  rintro ⟨a, g, _⟩ ⟨⟨m⟩, ⟨l, ⟨s⟩⟩, ⟨⟩⟩ W ⟨ha, ⟨hg, hn⟩, _⟩
  have hG : HasBools W l g := hg
  have hN : l.length ≤ 512 := hn
  have rt : ReadT W.cell? a 0 72 := by
    intro b hb j hj
    obtain rfl := Option.some.inj hb
    exact ha (0 + j) (show 0 + j < 72 by omega)
  have rd : Reads W.cell? g.a (boAt l) 0 l.length := reads_bools hG (by omega)
  have c1 := hB l hN
  show ∃ orc y vc, _ ∧ _ ∧ y = refAggF Bi B Tv l s
  exact ⟨saysY [], refAggF Bi B Tv (cutL l) s, [ReadT W.cell? a 0 72, TabsAre, (twL (B (cB (Bi (cutL l)))).f (B (sgL s)).f).length < 1048576, ∀ j, j < 2 * 32 → isU8 (twF (B (cB (Bi (cutL l)))).f (B (sgL s)).f (0 + j)) = true, ReadT W.cell? a 0 72, TabsAre, (sgL s).length ≤ 96, ReadT W.cell? a 0 72, TabsAre, (cB (Bi (cutL l))).length ≤ 96,
      ∀ j, j < (Bi (cutL l)).length → isU8 (byteAt (B := FB) (Bi (cutL l)) (0 + j)) = true, Reads W.cell? g.a (boAt l) 0 l.length, ∀ j, j < l.length → isBo (boAt l (0 + j)) = true, l.length < 1048576], by kernel_rfl,
    ⟨rt, tabsAre, by rw [twL_len]; decide, fun j _ => twF_u8 _ _ _, rt, tabsAre, by rw [sgL_len]; decide, rt, tabsAre, by rw [cB_eq, cutL_eq]; exact c1, fun _ _ => rfl, rd, fun _ _ => rfl, by omega, trivial⟩, by rw [cutL_eq]⟩
theorem bits96 (l : List Bool) (h : l.length ≤ 512) : (bitsL l).length ≤ 96 := by rw [bitsL_len, nB_eq]; omega
theorem refKey_ok : Computes A Tryd.prog 48 (fun x : Hs Mk × R8 48 × Unit => refBytesV pkR (treeN pairR8) (k48 x.2.1.f)) := refKey_of (B := refBytesV pkR (treeN pairR8)) (.cons refBytes_ok'.row (.nil _))
theorem refAggregate_ok : Computes A Tryd.prog 50 (fun x : Hs Mk × Ag × Unit => refAggF bitsL (refBytesV pkR (treeN pairR8)) (treV pairR8) x.2.1.bits x.2.1.sig.f) :=
  refAggregate_of (Bi := bitsL) (B := refBytesV pkR (treeN pairR8)) (Tv := treV pairR8) (.cons refBits_ok.row (.cons refBytes_ok'.row (.cons refTree_ok.row (.nil _)))) bits96
theorem key_same (Pr : R8 32 → R8 32 → R8 32) (k : R8 48) : keyV Pr k = refBytesV pkR (treeN Pr) (k48 k.f) := by
  obtain ⟨f⟩ := k
  rw [refPk Pr (by rw [k48_len]; decide)]
  unfold keyV rtL
  rw [ofV_tree]
  unfold treeN
  have e : nm (keyL f) = chL (k48 f) := by kernel_rfl
  rw [e, keyL_len, chL_len, k48_len]
theorem treV_two (Pr : R8 32 → R8 32 → R8 32) {l : List (R8 32)} {x y : R8 32} (h : nm l = [x, y]) : treV Pr l = Pr x y := by
  have hl : l.length = 2 := by rw [← nm_len, h]; rfl
  unfold treV treeN
  rw [nm_lC, hl, dep2, h]
  rfl
theorem agg_same (Pr : R8 32 → R8 32 → R8 32) (x : Ag) (h : x.bits.length ≤ 512) : aggV Pr x = refAggF bitsL (refBytesV pkR (treeN Pr)) (treV Pr) x.bits x.sig.f := by
  unfold aggV aggF refAggF
  rw [of_two Pr (nm_twS _ _), treV_two Pr (nm_tw _ _), cB_eq, ofPk Pr (bits96 _ h), ofPk Pr (by rw [sgL_len]; decide), refPk Pr (bits96 _ h), refPk Pr (by rw [sgL_len]; decide)]
noncomputable def tblF10 (Ke : R8 48 → R8 32) (Kr : R8 48 → R8 32) (Ga : Ag → R8 32) (Gr : Ag → R8 32) : List (Row A) :=
  [rowOf A 38 (fun _ : GA Unit => true), rowOf A 39 (fun _ : Unit => (⟨.mk⟩ : Hz Mk)), rowOf A 42 (fun x : GA (R8 48 × Unit) => Ke x.x.1), rowOf A 48 (fun x : Hs Mk × R8 48 × Unit => Kr x.2.1),
    rowOf A 49 (fun x : GA (Ag × Unit) => Ga x.x.1), rowOf A 50 (fun x : Hs Mk × Ag × Unit => Gr x.2.1)]
theorem rootsParts_of {Ke Kr : R8 48 → R8 32} {Ga Gr : Ag → R8 32} (ht : TblOK Tryd.prog (tblF10 Ke Kr Ga Gr)) (hK : ∀ k, Ke k = Kr k) (hA : ∀ x : Ag, x.bits.length ≤ 512 → Ga x = Gr x) :
    Computes A Tryd.prog 10 (fun _ : GA (R8 48 × Al × Unit) => true) := by
  refine computes_of_run ht Tryd.func10 (by kernel_rfl) (by kernel_rfl) 6 ?_
  rintro ⟨_, g, _⟩ ⟨⟨⟨k⟩, ⟨l, ⟨s⟩⟩, ⟨⟩⟩⟩ W ⟨hr, _, hg, _⟩
  have hG : HasBools W l g := hg
  cases h5 : decide ((l.length : Int) > 512) with
  | true => exact ⟨saysY [], true, [decide ((l.length : Int) > 512) = true, true = true, RoundsIn W.cell?], by kernel_rfl, ⟨h5, rfl, hr, trivial⟩, rfl⟩
  | false =>
    have hl : l.length ≤ 512 := by have := of_decide_eq_false h5; omega
    have rd : Reads W.cell? g.a (boAt l) 0 l.length := reads_bools hG (by omega)
    have hc : (cutL l).length ≤ 512 := by rw [cutL_eq]; exact hl
    exact ⟨saysY [(11, false)], true, [eqB (Ga ⟨cutL l, ⟨s⟩⟩).f (Gr ⟨cutL l, ⟨s⟩⟩).f 0 32 = true, TabsAre, (cutL l).length ≤ 512, Reads W.cell? g.a (boAt l) 0 l.length, ∀ j, j < l.length → isBo (boAt l (0 + j)) = true, RoundsIn W.cell?, (cutL l).length ≤ 512, Reads W.cell? g.a (boAt l) 0 l.length, ∀ j, j < l.length → isBo (boAt l (0 + j)) = true,
        eqB (Ke ⟨k⟩).f (Kr ⟨k⟩).f 0 32 = true, TabsAre, RoundsIn W.cell?, decide ((l.length : Int) > 512) = false, true = true, RoundsIn W.cell?], by kernel_rfl,
      ⟨by rw [hA _ hc]; exact eqB_self _ _ _, tabsAre, hc, rd, fun _ _ => rfl, hr, hc, rd, fun _ _ => rfl, by rw [hK]; exact eqB_self _ _ _, tabsAre, hr, h5, rfl, hr, trivial⟩, rfl⟩
theorem rootsParts_ok : Computes A Tryd.prog 10 (fun _ : GA (R8 48 × Al × Unit) => true) :=
  rootsParts_of (Ke := keyV pairR8) (Kr := fun k => refBytesV pkR (treeN pairR8) (k48 k.f)) (Ga := aggV pairR8) (Gr := fun x => refAggF bitsL (refBytesV pkR (treeN pairR8)) (treV pairR8) x.bits x.sig.f)
    (.cons known20_ok.row (.cons hasher_ok.row (.cons key_ok.row (.cons refKey_ok.row (.cons aggregate_ok.row (.cons refAggregate_ok.row (.nil _))))))) (fun k => key_same _ k) (fun x h => agg_same _ x h)
end Go.Proofs.YtaloefkkllebeaaDoor

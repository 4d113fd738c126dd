/- SHA-256, the reference: a text as it is hashed. -/
import Derived.Test.YtaloefkkllebeaaDoorTa
set_option linter.unusedVariables false
set_option linter.unusedSimpArgs false
set_option linter.unusedSectionVars false
set_option maxRecDepth 100000
namespace Go.Sh
def byF (b : UInt8) : Nat → A := fun j => ([(At.u8 b : A)][j]?).getD (.u8 b)
/-- Bytes, and others appended to them (the last first). -/
def GR (l : List UInt8) : List UInt8 → Nat → A
  | [] => fun q => byteAt l (0 + q)
  | b :: R => catF (GR l R) (timesN (l.length + R.length) (0 + 1)) (byF b) 0
theorem GR_get (l : List UInt8) : ∀ (R : List UInt8) (j : Nat), j < l.length + R.length → GR l R j = .u8 ((l ++ R.reverse).getD j 0)
  | [], j, h => by
    show (byteAt l (0 + j) : A) = _
    simp [byteAt]
  | b :: R, j, h => by
    have e : timesN (l.length + R.length) (0 + 1) = l.length + R.length := by rw [timesN_eq, Nat.zero_add, Nat.mul_one]
    show catF (GR l R) (timesN (l.length + R.length) (0 + 1)) (byF b) 0 j = _
    rw [e]
    rcases Nat.lt_or_ge j (l.length + R.length) with h' | h'
    · rw [catF_lt _ _ _ _ _ h', GR_get l R j h']
      congr 1
      simp only [List.getD_eq_getElem?_getD, List.reverse_cons]
      rw [← List.append_assoc, List.getElem?_append_left (l₁ := l ++ R.reverse) (by rw [List.length_append, List.length_reverse]; exact h')]
    · have hj : j = l.length + R.length := by simp at h; omega
      subst hj
      rw [catF_ge _ _ _ _ _ (Nat.le_refl _), Nat.sub_self]
      show (At.u8 b : A) = _
      congr 1
      simp only [List.getD_eq_getElem?_getD, List.reverse_cons]
      rw [← List.append_assoc, List.getElem?_append_right (l₁ := l ++ R.reverse) (by simp)]
      simp
def outR8 (l R : List UInt8) : List UInt8 := (List.range (l.length + R.length)).map fun j => u8of (GR l R (0 + j))
theorem outR8_eq (l R : List UInt8) : outR8 l R = l ++ R.reverse := by
  apply List.ext_getElem
  · simp [outR8]
  · intro j h1 h2
    simp [outR8] at h1
    simp only [outR8, List.getElem_map, List.getElem_range, Nat.zero_add]
    rw [GR_get l R j h1, List.getD_eq_getElem?_getD, List.getElem?_eq_getElem h2]
    rfl
theorem GR_isU8 (l R : List UInt8) : ∀ j, j < l.length + R.length → isU8 (GR l R (0 + j)) = true := fun j hj => by rw [Nat.zero_add, GR_get l R j hj]; rfl
def lenBz (n i : Nat) : UInt8 := UInt8.ofNat (((UInt64.ofNat ((u64 (((u64 (n : Int)).toNat : Int) * 8)).toNat / 2 ^ min (8 * i) IntKind.u64.bits)).toNat : Int) % 256).toNat
theorem lenBz_eq (n i : Nat) : lenBz n i = lenBy n i := by unfold lenBz lenBy; rw [Int.mul_comm]
def lensR (n : Nat) : List UInt8 := [lenBz n 0, lenBz n 1, lenBz n 2, lenBz n 3, lenBz n 4, lenBz n 5, lenBz n 6, lenBz n 7]
theorem lensR_eq (n : Nat) : (lensR n).reverse = lens n := by simp [lensR, lens, lenBz_eq]
/-- How many noughts. -/
def zerosN (n : Nat) : Nat := (119 - n % 64) % 64
/-- A text as it is hashed. -/
def padL (l : List UInt8) : List UInt8 := l ++ (UInt8.ofNat 128 :: (List.replicate (zerosN l.length) (UInt8.ofNat 0) ++ lens l.length))
theorem padL_len (l : List UInt8) : (padL l).length = l.length + 1 + zerosN l.length + 8 := by simp [padL, lens]; omega
theorem padL_64 (l : List UInt8) : (padL l).length % 64 = 0 := by rw [padL_len]; unfold zerosN; omega
/-- Two elements are as many as fit. -/
theorem bears {n : Nat} (h : n < 2097152) : Sh.Bears n 1 := ⟨by omega, by unfold maxLen; omega⟩
end Go.Sh
namespace Go.Proofs.YtaloefkkllebeaaDoor
open Go Go.Sh
def pS (g : Spot) (l R : List UInt8) : St A :=
  ⟨slots 0 34 [(0, .val false [slE g l 0 l.length g.c]), (2, .val false [.v (.slice none 0 0)]), (3, .val false [.gr (GR l R) 0 (1 + R.length) (l.length + R.length) 1])], [some ⟨[.mk (1 + R.length) (l.length + R.length)], 5, false⟩, some ⟨[.v (.int .u8 128)], 5, false⟩], 0, [], []⟩
section
variable {old : Addr → Option Value} {k : Cfg A} (e1 : k.P = Tryd.prog) (e2 : k.gl = (fun _ => none)) (e3 : k.old = old) (e4 : k.ys = []) (g : Spot) (l : List UInt8)
include e1 e2 e3 e4
theorem pS_one (R : List UInt8) (h1 : (((l.length + R.length : Nat) : Int).tmod 64 != 56) = true) (h2 : l.length + R.length + 1 < 2097152) : Round k (loopNo Tryd.f30 2) (pS g l R) .normal (pS g l (UInt8.ofNat 0 :: R)) :=
  Round.of0 (TblOK.nil _) (says [(13, true)]) 4 [1 + R.length = 1 + R.length ∧ timesN (l.length + R.length) (0 + 1) = l.length + R.length ∧ Sh.Bears (l.length + R.length + 1) 1, (((l.length + R.length : Nat) : Int).tmod 64 != 56) = true] (by kernel_rfl)
    ⟨⟨rfl, by rw [timesN_eq, Nat.zero_add, Nat.mul_one], bears h2⟩, h1, trivial⟩ (by kernel_rfl) (by kernel_rfl) e1 e2 e3 e4
theorem pS_end (R : List UInt8) (h1 : (((l.length + R.length : Nat) : Int).tmod 64 != 56) = false) : Round k (loopNo Tryd.f30 2) (pS g l R) (.exit 0) (pS g l R) :=
  Round.of0 (TblOK.nil _) (says [(13, false)]) 4 [(((l.length + R.length : Nat) : Int).tmod 64 != 56) = false] (by kernel_rfl) ⟨h1, trivial⟩ (by kernel_rfl) (by kernel_rfl) e1 e2 e3 e4
end
theorem tmod_ne (n : Nat) : (((n : Int).tmod 64 != 56) = true ↔ n % 64 ≠ 56) := by
  have : (n : Int).tmod 64 = ((n % 64 : Nat) : Int) := rfl
  rw [this]
  simp only [bne_iff_ne, ne_eq]
  omega
def padR (n : Nat) : Nat → List UInt8
  | 0 => [UInt8.ofNat 128]
  | k + 1 => UInt8.ofNat 0 :: padR n k
theorem padR_len (n : Nat) : ∀ k, (padR n k).length = k + 1
  | 0 => rfl
  | k + 1 => by simp [padR, padR_len n k]
theorem padR_rev (n : Nat) : ∀ k, (padR n k).reverse = UInt8.ofNat 128 :: List.replicate k (UInt8.ofNat 0)
  | 0 => rfl
  | k + 1 => by
    simp only [padR, List.reverse_cons, padR_rev n k, List.cons_append]
    rw [← List.replicate_succ']
theorem pad_ok : Computes A Tryd.prog 30 (fun x : Bt × Unit => (⟨padL x.1.l⟩ : Bz)) := by
  refine computes_of_runW (TblOK.nil _) (ITblOK.nil _) Tryd.func30 (by kernel_rfl) (by kernel_rfl) 10 ?_
  rintro ⟨g, _⟩ ⟨⟨l⟩, ⟨⟩⟩ W ⟨⟨hg, hn⟩, _⟩
  have hg : HasBytes W l g := hg
  have hn : l.length < 1048576 := hn
  have hz : zerosN l.length < 64 := Nat.mod_lt _ (by decide)
  have hs : SoundFor Tryd.prog W.cell? [] (.loop (loopNo Tryd.f30 2)) (pS g l (padR l.length 0)) (.exit 0) (pS g l (padR l.length (zerosN l.length))) := by
    intro c q1 q2 q3 q4
    refine loopAt (c := c) (inv := fun i => pS g l (padR l.length i)) (N := zerosN l.length) (by simp) (fun i hi => pS_one q1 q2 q3 q4 g l _ ?_ ?_) (pS_end q1 q2 q3 q4 g l _ ?_)
    · rw [tmod_ne, padR_len]; unfold zerosN at hi; omega
    · rw [padR_len]; omega
    · rw [Bool.eq_false_iff, Ne, tmod_ne, padR_len]; unfold zerosN; omega
  have hlen := padR_len l.length (zerosN l.length)
  have hrev := padR_rev l.length (zerosN l.length)
  have hy : outR8 l (lensR l.length ++ padR l.length (zerosN l.length)) = padL l := by
    rw [outR8_eq, List.reverse_append, hrev, lensR_eq]
    simp [padL]
  have hu := GR_isU8 l (lensR l.length ++ padR l.length (zerosN l.length))
  revert hs hlen hy hu
  generalize padR l.length (zerosN l.length) = R
  intro hs hlen hy hu
  have b : ∀ i, i < 9 → Sh.Bears (l.length + R.length + i) 1 := fun i hi => bears (by omega)
  have t : ∀ i, timesN (l.length + R.length + i) (0 + 1) = l.length + R.length + i := fun i => by rw [timesN_eq, Nat.zero_add, Nat.mul_one]
  have ap : ∀ i, i < 8 → (1 + R.length + i = 1 + R.length + i ∧ timesN (l.length + R.length + i) (0 + 1) = l.length + R.length + i ∧ Sh.Bears (l.length + R.length + i + 1) 1) := fun i hi => ⟨rfl, t i, b (i + 1) (by omega)⟩
  refine ⟨fun _ _ => .keep, lps [(2, pS g l (padR l.length 0), .exit 0, pS g l R)], ⟨outR8 l (lensR l.length ++ R)⟩,
    [∀ j, j < l.length + (lensR l.length ++ R).length → isU8 (GR l (lensR l.length ++ R) (0 + j)) = true,
      1 + R.length + 7 = 1 + R.length + 7 ∧ timesN (l.length + R.length + 7) (0 + 1) = l.length + R.length + 7 ∧ Sh.Bears (l.length + R.length + 7 + 1) 1,
      1 + R.length + 6 = 1 + R.length + 6 ∧ timesN (l.length + R.length + 6) (0 + 1) = l.length + R.length + 6 ∧ Sh.Bears (l.length + R.length + 6 + 1) 1,
      1 + R.length + 5 = 1 + R.length + 5 ∧ timesN (l.length + R.length + 5) (0 + 1) = l.length + R.length + 5 ∧ Sh.Bears (l.length + R.length + 5 + 1) 1,
      1 + R.length + 4 = 1 + R.length + 4 ∧ timesN (l.length + R.length + 4) (0 + 1) = l.length + R.length + 4 ∧ Sh.Bears (l.length + R.length + 4 + 1) 1,
      1 + R.length + 3 = 1 + R.length + 3 ∧ timesN (l.length + R.length + 3) (0 + 1) = l.length + R.length + 3 ∧ Sh.Bears (l.length + R.length + 3 + 1) 1,
      1 + R.length + 2 = 1 + R.length + 2 ∧ timesN (l.length + R.length + 2) (0 + 1) = l.length + R.length + 2 ∧ Sh.Bears (l.length + R.length + 2 + 1) 1,
      1 + R.length + 1 = 1 + R.length + 1 ∧ timesN (l.length + R.length + 1) (0 + 1) = l.length + R.length + 1 ∧ Sh.Bears (l.length + R.length + 1 + 1) 1,
      1 + R.length + 0 = 1 + R.length + 0 ∧ timesN (l.length + R.length + 0) (0 + 1) = l.length + R.length + 0 ∧ Sh.Bears (l.length + R.length + 0 + 1) 1,
      ToldIs (pS g l (padR l.length 0)), 1 = 1 ∧ timesN l.length (0 + 1) = l.length ∧ Sh.Bears (l.length + 1) 1, Sh.Bears l.length 1, Reads W.cell? g.a (byteAt (B := FB) l) 0 l.length], by kernel_rfl,
    ⟨hu, ap 7 (by omega), ap 6 (by omega), ap 5 (by omega), ap 4 (by omega), ap 3 (by omega), ap 2 (by omega), ap 1 (by omega), ap 0 (by omega), toldIs _, ⟨rfl, by rw [timesN_eq, Nat.zero_add, Nat.mul_one], bears (by omega)⟩, bears (by omega), reads_part hg (by omega), trivial⟩, by simp only [hy], fun body hb => ?_⟩
  obtain rfl := Option.some.inj hb
  exact LoopsFor.cons (by kernel_rfl) hs LoopsFor.nil
end Go.Proofs.YtaloefkkllebeaaDoor

/- SHA-256, the reference: its maker; its sum. -/
namespace Go.Sh
def tabL : List UInt32 := firstL ++ roundL
def tabA (j : Nat) : UInt32 := pickN 0 tabL j
def sameW : List UInt32 → List UInt32 → Bool
  | [], [] => true
  | x :: l, y :: r => (match Nat.beq x.toNat y.toNat with | true => sameW l r | false => false)
  | _, _ => false
theorem sameW_eq : ∀ {l r : List UInt32}, sameW l r = true → l = r
  | [], [], _ => rfl
  | x :: l, y :: r, h => by
    unfold sameW at h
    split at h
    · rename_i hb
      rw [UInt32.toNat_inj.1 (Nat.eq_of_beq_eq_true hb), sameW_eq h]
    · cases h
  | [], _ :: _, h => by cases h
  | _ :: _, [], h => by cases h
/-- The reference's constants, as they are made. -/
inductive Mk where
  | mk
theorem lis_words {β : Adr} : ∀ l : List UInt32, LIs β (l.map fun x => (SV.a (At.u32 x) : SV A)) (l.map fun x => Value.int .u32 x.toNat)
  | [] => rfl
  | x :: l => ⟨[Value.int .u32 x.toNat], _, rfl, lis_words l, rfl⟩
theorem lis_words' {β : Adr} : ∀ {l : List UInt32} {vs}, LIs β (l.map fun x => (SV.a (At.u32 x) : SV A)) vs → vs = l.map fun x => Value.int .u32 x.toNat
  | [], vs, h => h
  | x :: l, vs, ⟨u, y, h1, h2, e⟩ => by
    have h3 : u = [Value.int .u32 x.toNat] := h1
    rw [e, h3, lis_words' h2]; rfl
instance : Rep A Mk where
  agg := true
  shw _ := tabL.map fun x => .a (.u32 x)
  vals _ := tabL.map fun x => .int .u32 x.toNat
  parse l := match words32 (flat l) with | some r => (match sameW r tabL with | true => some .mk | false => none) | none => none
  is β _ := lis_words tabL
  only h := lis_words' h
  ok := by
    intro β l x vs h e
    split at h
    · rename_i r hr
      split at h
      · rename_i hb
        rw [words32_is (flat_is e) hr, sameW_eq hb]
      · cases h
    · cases h
  single h := by cases h
theorem pickN_at' {α : Type} (d : α) : ∀ (l : List α) (i : Nat), i < l.length → l[i]? = some (pickN d l i) := pickN_at d
instance : Celled Mk where
  n := 72
  cellA _ j := .u32 (tabA j)
  len _ := by show (tabL.map _).length = 72; rfl
  cell _ j hj := ⟨.int .u32 (tabA j).toNat, by
    show (tabL.map _)[j]? = _
    rw [List.getElem?_map, pickN_at 0 tabL j (show j < 72 from hj)]
    rfl, rfl⟩
  of _ _ := .mk
  must f i := ∀ j, j < 72 → f (i + j) = .u32 (tabA j)
  of_ok h j hj := by rw [h j hj]
/-- How far words are turned. -/
inductive Tn where
  | t7
  | t18
  | t17
  | t19
  | t6
  | t11
  | t25
  | t2
  | t13
  | t22
def Tn.n : Tn → Nat
  | .t7 => 7
  | .t18 => 18
  | .t17 => 17
  | .t19 => 19
  | .t6 => 6
  | .t11 => 11
  | .t25 => 25
  | .t2 => 2
  | .t13 => 13
  | .t22 => 22
def findTn (k : Nat) : List Tn → Option Tn
  | [] => none
  | x :: l => match Nat.beq k x.n with | true => some x | false => findTn k l
def tnOf (k : Nat) : Option Tn := findTn k [.t7, .t18, .t17, .t19, .t6, .t11, .t25, .t2, .t13, .t22]
theorem findTn_ok {k : Nat} {x : Tn} : ∀ {l : List Tn}, findTn k l = some x → x.n = k
  | y :: l, h => by
    unfold findTn at h
    split at h
    · rename_i hb
      obtain rfl := Option.some.inj h
      exact (Nat.eq_of_beq_eq_true hb).symm
    · exact findTn_ok h
theorem tnOf_ok {k : Nat} {x : Tn} (h : tnOf k = some x) : x.n = k := findTn_ok h
instance : Arg A Tn where
  G := Unit
  good _ _ _ := True
  tv _ x := .val false [.v (.int .i64 x.n)]
  val _ x := .int .i64 x.n
  is β _ := LIs.of_single ⟨rfl, rfl⟩
  parse _ _ t := match t with
    | .val false [.v (.int .i64 (.ofNat k))] => (match tnOf k with | some x => some (x, []) | none => none)
    | _ => none
  ok := by
    intro c X W0 W β m t x vc v h hvc hm e
    split at h
    · rename_i k
      split at h
      · rename_i y hy
        simp at h
        obtain ⟨rfl, rfl⟩ := h
        obtain ⟨e1, _⟩ := LIs.single (e : LIs β _ [v])
        simp at e1
        exact ⟨(), trivial, by rw [e1, tnOf_ok hy]⟩
      · cases h
    · cases h
def turn3 (x : UInt32) (n : Nat) : UInt32 := or3 (shr3 x n) (shl3 x (32 - n))
end Go.Sh
namespace Go.Proofs.YtaloefkkllebeaaDoor
open Go Go.Sh
theorem turn_ok : Computes A Tryd.prog 89 (fun x : UInt32 × Tn × Unit => turn3 x.1 x.2.1.n) := by
  refine computes_of_run (TblOK.nil _) Tryd.func89 (by kernel_rfl) (by kernel_rfl) 4 ?_
  rintro ⟨_, _, _⟩ ⟨x, n, ⟨⟩⟩ W -
  refine ⟨fun _ _ => .keep, turn3 x n.n, [], ?_, trivial, rfl⟩
  cases n <;> kernel_rfl
def turnR : Row A := rowOf A 89 (fun x : UInt32 × Tn × Unit => turn3 x.1 x.2.1.n)
noncomputable def tblRef (P : List UInt8 → List UInt8) : List (Row A) := [rowOf A 30 (fun x : Bt × Unit => (⟨P x.1.l⟩ : Bz)), turnR]
def rSl (a : Addr) (P : List UInt8) (at_ : Int) : List (Nat × TV A) :=
  [(0, .val false [.q (some a) (fun j => .u32 (tabA j)) 0]), (4, .val false [.p 0 0]), (5, .val false [.p 1 0]), (6, .val false [.kn (byteAt P) 0 P.length 1]), (7, .val false [.n .i64 at_])]
def rMem (h : Nat → UInt32) : Mem A := [some ⟨zer8 32, 25, false⟩, some ⟨[.a (.w32 8 h)], 37, false⟩]
def rW (f : Nat → UInt32) : Option (Blk A) := some ⟨[.a (.w32 64 f)], 138, false⟩
def rV (v : Nat → UInt32) : Option (Blk A) := some ⟨[.a (.w32 8 v)], 37, false⟩
def r1 (a : Addr) (P : List UInt8) (h : Nat → UInt32) (k : Nat) (f : Nat → UInt32) (i : Nat) : St A := ⟨slots 0 216 (rSl a P ((64 * k : Nat) : Int) ++ [(8, .val false [.p 2 0]), (9, .val false [.n .i64 i])]), rMem h ++ [rW f], 0, [], []⟩
def r2 (a : Addr) (P : List UInt8) (h : Nat → UInt32) (k : Nat) (f : Nat → UInt32) (i : Nat) : St A := ⟨slots 0 216 (rSl a P ((64 * k : Nat) : Int) ++ [(8, .val false [.p 2 0]), (11, .val false [.n .i64 i])]), rMem h ++ [rW f], 0, [], []⟩
def r3 (a : Addr) (P : List UInt8) (h : Nat → UInt32) (k : Nat) (f v : Nat → UInt32) (i : Nat) : St A := ⟨slots 0 216 (rSl a P ((64 * k : Nat) : Int) ++ [(8, .val false [.p 2 0]), (14, .val false [.p 3 0]), (15, .val false [.n .i64 i])]), rMem h ++ [rW f, rV v], 0, [], []⟩
end Go.Proofs.YtaloefkkllebeaaDoor

/- SHA-256, the reference: its sum. -/
namespace Go.Sh
/-- Bytes as they are read. -/
def partB (l : List UInt8) (i n : Nat) : List UInt8 := (List.range n).map fun j => u8of (byteAt (B := FB) l (i + j))
theorem partB_all (l : List UInt8) : partB l 0 l.length = l := by
  apply List.ext_getElem
  · simp [partB]
  · intro j h1 h2
    simp [partB, byteAt, u8of, List.getD_eq_getElem?_getD, h2]
def ReadB (W : World) (g : Spot) (l : List UInt8) : Prop := Reads W.cell? g.a (byteAt (B := FB) l) 0 l.length
def AllU8 (l : List UInt8) : Prop := ∀ j, j < l.length → isU8 (byteAt (B := FB) l (0 + j)) = true
theorem readB {W : World} {g : Spot} {l : List UInt8} (h : HasBytes W l g) : ReadB W g l := by
  intro b hb j hj
  exact ⟨_, h.2.2 b hb (0 + j) (by omega), rfl⟩
theorem allU8 (l : List UInt8) : AllU8 l := fun j _ => rfl
def hStep (P : List UInt8) (k i kk : Nat) (f : Nat → UInt32) : Nat → UInt32 :=
  upd f (i : Int).toNat (or3 (shl3 (f (i : Int).toNat) 8) (byte3 (P.getD ((((64 * k : Nat) : Int) + 4 * (i : Int)) + (kk : Int)).toNat 0)))
def headR (P : List UInt8) (k i : Nat) (f : Nat → UInt32) : Nat → UInt32 := hStep P k i 3 (hStep P k i 2 (hStep P k i 1 (hStep P k i 0 f)))
def hIt (P : List UInt8) (k : Nat) : Nat → (Nat → UInt32)
  | 0 => z64
  | i + 1 => headR P k i (hIt P k i)
def sigR0 (x : UInt32) : UInt32 := xor3 (xor3 (turn3 x 7) (turn3 x 18)) (shr3 x 3)
def sigR1 (x : UInt32) : UInt32 := xor3 (xor3 (turn3 x 17) (turn3 x 19)) (shr3 x 10)
def wStepR (f : Nat → UInt32) (k : Nat) : Nat → UInt32 :=
  upd f (k : Int).toNat (add3 (add3 (add3 (f ((k : Int) - 16).toNat) (sigR0 (f ((k : Int) - 15).toNat))) (f ((k : Int) - 7).toNat)) (sigR1 (f ((k : Int) - 2).toNat)))
def wItR (f : Nat → UInt32) : Nat → (Nat → UInt32)
  | 0 => f
  | i + 1 => wStepR (wItR f i) (16 + i)
def bigR1 (e : UInt32) : UInt32 := xor3 (xor3 (turn3 e 6) (turn3 e 11)) (turn3 e 25)
def bigR0 (a : UInt32) : UInt32 := xor3 (xor3 (turn3 a 2) (turn3 a 13)) (turn3 a 22)
def tR (kk w : UInt32) (v : Nat → UInt32) : UInt32 := add3 (add3 (add3 (add3 (v 7) (bigR1 (v 4))) (xor3 (and3 (v 4) (v 5)) (and3 (not3 (v 4)) (v 6)))) kk) w
def uR (v : Nat → UInt32) : UInt32 := add3 (bigR0 (v 0)) (xor3 (xor3 (and3 (v 0) (v 1)) (and3 (v 0) (v 2))) (and3 (v 1) (v 2)))
def rStepR (kk w : UInt32) (v : Nat → UInt32) : Nat → UInt32 := pickN 0 [add3 (tR kk w v) (uR v), v 0, v 1, v 2, add3 (v 3) (tR kk w v), v 4, v 5, v 6]
def rItR (w v : Nat → UInt32) : Nat → (Nat → UInt32)
  | 0 => v
  | i + 1 => rStepR (tabA (i + 8)) (w i) (rItR w v i)
def plusR (h v : Nat → UInt32) : Nat → UInt32 := pickN 0 [add3 (h 0) (v 0), add3 (h 1) (v 1), add3 (h 2) (v 2), add3 (h 3) (v 3), add3 (h 4) (v 4), add3 (h 5) (v 5), add3 (h 6) (v 6), add3 (h 7) (v 7)]
def refComp (P : List UInt8) (k : Nat) (h : Nat → UInt32) : Nat → UInt32 := plusR h (rItR (wItR (hIt P k 16) 48) h 64)
def hFirst : Nat → UInt32 := pickN 0 [tabA 0, tabA 1, tabA 2, tabA 3, tabA 4, tabA 5, tabA 6, tabA 7]
def refS (P : List UInt8) : Nat → (Nat → UInt32)
  | 0 => hFirst
  | k + 1 => refComp P k (refS P k)
def fourR (x : UInt32) : List UInt8 := [shrB x 24, shrB x 16, shrB x 8, shrB x 0]
def outRf (f : Nat → UInt32) : Nat → UInt8 := pickN 0 (fourR (f 0) ++ fourR (f 1) ++ fourR (f 2) ++ fourR (f 3) ++ fourR (f 4) ++ fourR (f 5) ++ fourR (f 6) ++ fourR (f 7))
end Go.Sh
namespace Go.Proofs.YtaloefkkllebeaaDoor
open Go Go.Sh
def r1E (a : Addr) (P : List UInt8) (h : Nat → UInt32) (k : Nat) (f : Nat → UInt32) : St A := ⟨slots 0 216 (rSl a P ((64 * k : Nat) : Int) ++ [(8, .val false [.p 2 0])]), rMem h ++ [rW f], 0, [], []⟩
def r3E (a : Addr) (P : List UInt8) (h : Nat → UInt32) (k : Nat) (f v : Nat → UInt32) : St A := ⟨slots 0 216 (rSl a P ((64 * k : Nat) : Int) ++ [(8, .val false [.p 2 0]), (14, .val false [.p 3 0])]), rMem h ++ [rW f, rV v], 0, [], []⟩
def rO (a : Addr) (P : List UInt8) (h : Nat → UInt32) (k : Nat) : St A := ⟨slots 0 216 (rSl a P ((64 * k : Nat) : Int)), rMem h, 0, [], []⟩
def ReadT (old : Addr → Option Value) (a : Addr) (i n : Nat) : Prop := Reads old (some a) (fun j => (.u32 (tabA j) : A)) i n
def HasTab (W : World) (a : Addr) : Prop := ∀ i n, i + n ≤ 72 → ReadT W.cell? a i n
section
variable {W : World} (a : Addr) (hT : HasTab W a) (P : List UInt8) (h : Nat → UInt32) (k : Nat) {c : Cfg A} (e1 : c.P = Tryd.prog) (e2 : c.gl = (fun _ => none)) (e3 : c.old = W.cell?) (e4 : c.ys = [])
include e1 e2 e3 e4
theorem r1_one (hk : 64 * k + 64 ≤ P.length) (hP : P.length < 2097152) (f : Nat → UInt32) (i : Nat) (hi : i < 16) : Round c (loopNo Tryd.f28 8) (r1 a P h k f i) .normal (r1 a P h k (headR P k i f) (i + 1)) :=
  Round.of0 (.cons turn_ok.row (.nil _)) (says [(36, true)]) 8
    [WI ((i : Int) + 1), IX i 64, IX (((64 * k : Nat) : Int) + 4 * (i : Int) + 3) P.length, WI (((64 * k : Nat) : Int) + 4 * (i : Int) + 3), WI (((64 * k : Nat) : Int) + 4 * (i : Int)), WI (4 * (i : Int)), IX i 64,
      IX i 64, IX (((64 * k : Nat) : Int) + 4 * (i : Int) + 2) P.length, WI (((64 * k : Nat) : Int) + 4 * (i : Int) + 2), WI (((64 * k : Nat) : Int) + 4 * (i : Int)), WI (4 * (i : Int)), IX i 64,
      IX i 64, IX (((64 * k : Nat) : Int) + 4 * (i : Int) + 1) P.length, WI (((64 * k : Nat) : Int) + 4 * (i : Int) + 1), WI (((64 * k : Nat) : Int) + 4 * (i : Int)), WI (4 * (i : Int)), IX i 64,
      IX i 64, IX (((64 * k : Nat) : Int) + 4 * (i : Int) + 0) P.length, WI (((64 * k : Nat) : Int) + 4 * (i : Int) + 0), WI (((64 * k : Nat) : Int) + 4 * (i : Int)), WI (4 * (i : Int)), IX i 64, decide ((i : Int) < 16) = true]
    (by kernel_rfl)
    ⟨wI (by omega) (by omega), ⟨by omega, by omega⟩, ⟨by omega, by omega⟩, wI (by omega) (by omega), wI (by omega) (by omega), wI (by omega) (by omega), ⟨by omega, by omega⟩,
      ⟨by omega, by omega⟩, ⟨by omega, by omega⟩, wI (by omega) (by omega), wI (by omega) (by omega), wI (by omega) (by omega), ⟨by omega, by omega⟩,
      ⟨by omega, by omega⟩, ⟨by omega, by omega⟩, wI (by omega) (by omega), wI (by omega) (by omega), wI (by omega) (by omega), ⟨by omega, by omega⟩,
      ⟨by omega, by omega⟩, ⟨by omega, by omega⟩, wI (by omega) (by omega), wI (by omega) (by omega), wI (by omega) (by omega), ⟨by omega, by omega⟩, decide_eq_true (by omega), trivial⟩ (by kernel_rfl) (by kernel_rfl) e1 e2 e3 e4
theorem r1_end (f : Nat → UInt32) : Round c (loopNo Tryd.f28 8) (r1 a P h k f 16) (.exit 2) (r1E a P h k f) :=
  Round.of0 (.cons turn_ok.row (.nil _)) (says [(36, false)]) 8 [decide (((16 : Nat) : Int) < 16) = false] (by kernel_rfl) ⟨by decide, trivial⟩ (by kernel_rfl) (by kernel_rfl) e1 e2 e3 e4
theorem r2_one (f : Nat → UInt32) (i : Nat) (h1 : 16 ≤ i) (hi : i < 64) : Round c (loopNo Tryd.f28 15) (r2 a P h k f i) .normal (r2 a P h k (wStepR f i) (i + 1)) :=
  Round.of0 (.cons turn_ok.row (.nil _)) (says [(61, true)]) 8
    [WI ((i : Int) + 1), IX (i : Int) 64, IX ((i : Int) - 7) 64, WI ((i : Int) - 7), IX ((i : Int) - 16) 64, WI ((i : Int) - 16), IX ((i : Int) - 2) 64, WI ((i : Int) - 2), IX ((i : Int) - 15) 64, WI ((i : Int) - 15), decide ((i : Int) < 64) = true]
    (by kernel_rfl)
    ⟨wI (by omega) (by omega), ⟨by omega, by omega⟩, ⟨by omega, by omega⟩, wI (by omega) (by omega), ⟨by omega, by omega⟩, wI (by omega) (by omega), ⟨by omega, by omega⟩, wI (by omega) (by omega), ⟨by omega, by omega⟩, wI (by omega) (by omega), decide_eq_true (by omega), trivial⟩
    (by kernel_rfl) (by kernel_rfl) e1 e2 e3 e4
theorem r2_end (f : Nat → UInt32) : Round c (loopNo Tryd.f28 15) (r2 a P h k f 64) (.exit 6) (r1E a P h k f) :=
  Round.of0 (.cons turn_ok.row (.nil _)) (says [(61, false)]) 8 [decide (((64 : Nat) : Int) < 64) = false] (by kernel_rfl) ⟨by decide, trivial⟩ (by kernel_rfl) (by kernel_rfl) e1 e2 e3 e4
include hT in
theorem r3_one (f v : Nat → UInt32) (i : Nat) (hi : i < 64) : Round c (loopNo Tryd.f28 21) (r3 a P h k f v i) .normal (r3 a P h k f (rStepR (tabA (i + 8)) (f i) v) (i + 1)) :=
  Round.of0 (.cons turn_ok.row (.nil _)) (says [(103, true)]) 8 [WI ((i : Int) + 1), IX (i : Int) 64, ReadT W.cell? a (i + 8) 1, IX (i : Int) 64, decide ((i : Int) < 64) = true] (by kernel_rfl)
    ⟨wI (by omega) (by omega), ⟨by omega, by omega⟩, hT _ _ (by omega), ⟨by omega, by omega⟩, decide_eq_true (by omega), trivial⟩ (by kernel_rfl) (by kernel_rfl) e1 e2 e3 e4
theorem r3_end (f v : Nat → UInt32) : Round c (loopNo Tryd.f28 21) (r3 a P h k f v 64) (.exit 8) (r3E a P h k f v) :=
  Round.of0 (.cons turn_ok.row (.nil _)) (says [(103, false)]) 8 [decide (((64 : Nat) : Int) < 64) = false] (by kernel_rfl) ⟨by decide, trivial⟩ (by kernel_rfl) (by kernel_rfl) e1 e2 e3 e4
include hT in
theorem rO_one (hk : 64 * k + 64 ≤ P.length) (hP : P.length < 2097152) : Round c (loopNo Tryd.f28 4) (rO a P h k) .normal (rO a P (refComp P k h) (k + 1)) := by
  have s1 : SoundFor Tryd.prog W.cell? [] (.loop (loopNo Tryd.f28 8)) (r1 a P h k z64 0) (.exit 2) (r1E a P h k (hIt P k 16)) :=
    fun d q1 q2 q3 q4 => loopAt (c := d) (inv := fun i => r1 a P h k (hIt P k i) i) (N := 16) (by simp) (fun i hi => r1_one a P h k q1 q2 q3 q4 hk hP _ i hi) (r1_end a P h k (W := W) q1 q2 q3 q4 _)
  have s2 : SoundFor Tryd.prog W.cell? [] (.loop (loopNo Tryd.f28 15)) (r2 a P h k (hIt P k 16) 16) (.exit 6) (r1E a P h k (wItR (hIt P k 16) 48)) :=
    fun d q1 q2 q3 q4 => loopAt (c := d) (inv := fun i => r2 a P h k (wItR (hIt P k 16) i) (16 + i)) (N := 48) (by simp) (fun i hi => r2_one a P h k (W := W) q1 q2 q3 q4 _ (16 + i) (by omega) (by omega)) (r2_end a P h k (W := W) q1 q2 q3 q4 _)
  have s3 : SoundFor Tryd.prog W.cell? [] (.loop (loopNo Tryd.f28 21)) (r3 a P h k (wItR (hIt P k 16) 48) h 0) (.exit 8) (r3E a P h k (wItR (hIt P k 16) 48) (rItR (wItR (hIt P k 16) 48) h 64)) :=
    fun d q1 q2 q3 q4 => loopAt (c := d) (inv := fun i => r3 a P h k (wItR (hIt P k 16) 48) (rItR (wItR (hIt P k 16) 48) h i) i) (N := 64) (by simp) (fun i hi => r3_one a hT P h k q1 q2 q3 q4 _ _ i hi) (r3_end a P h k (W := W) q1 q2 q3 q4 _ _)
  unfold refComp
  revert s1 s2 s3
  generalize rItR (wItR (hIt P k 16) 48) h 64 = v
  generalize wItR (hIt P k 16) 48 = w2
  generalize hIt P k 16 = w1
  intro s1 s2 s3
  refine Round.of (.cons turn_ok.row (.nil _)) (ITblOK.nil _) (says [(32, true)]) (lps [(8, r1 a P h k z64 0, .exit 2, r1E a P h k w1), (15, r2 a P h k w1 16, .exit 6, r1E a P h k w2), (21, r3 a P h k w2 h 0, .exit 8, r3E a P h k w2 v)]) (YFOK.none _ _) 10
    [WI (((64 * k : Nat) : Int) + 64), ToldIs (r3 a P h k w2 h 0), ToldIs (r2 a P h k w1 16), ToldIs (r1 a P h k z64 0), decide (((64 * k : Nat) : Int) < (P.length : Int)) = true]
    (LoopsFor.cons (by kernel_rfl) s1 (LoopsFor.cons (by kernel_rfl) s2 (LoopsFor.cons (by kernel_rfl) s3 LoopsFor.nil))) (by kernel_rfl) ⟨wI (by omega) (by omega), toldIs _, toldIs _, toldIs _, decide_eq_true (by omega), trivial⟩ (by kernel_rfl) (by kernel_rfl) e1 e2 e3 e4
theorem rO_end (hk : P.length ≤ 64 * k) : Round c (loopNo Tryd.f28 4) (rO a P h k) (.exit 0) (rO a P h k) :=
  Round.of0 (.cons turn_ok.row (.nil _)) (says [(32, false)]) 8 [decide (((64 * k : Nat) : Int) < (P.length : Int)) = false] (by kernel_rfl) ⟨decide_eq_false (by omega), trivial⟩ (by kernel_rfl) (by kernel_rfl) e1 e2 e3 e4
end
theorem refSum_of (P : List UInt8 → List UInt8) (ht : TblOK Tryd.prog (tblRef P)) (h64 : ∀ l, (P l).length % 64 = 0) (hP : ∀ l, l.length < 1048576 → (P l).length < 2097152) :
    Computes A Tryd.prog 28 (fun x : Ptr Mk × Bt × Unit => (⟨outRf (refS (P x.2.1.l) ((P x.2.1.l).length / 64))⟩ : R8 32)) := by
  refine computes_of_runW ht (ITblOK.nil _) Tryd.func28 (by kernel_rfl) (by kernel_rfl) 40 ?_
  rintro ⟨a, g, _⟩ ⟨⟨m⟩, ⟨l⟩, ⟨⟩⟩ W ⟨ha, ⟨hg, hn⟩, _⟩
  have hg : HasBytes W l g := hg
  have hn : l.length < 1048576 := hn
  have hT : HasTab W a := by
    intro i n hin b hb j hj
    obtain rfl := Option.some.inj hb
    exact ha (i + j) (show i + j < 72 by omega)
  obtain ⟨p, hp⟩ : ∃ p, p = partB l 0 l.length := ⟨_, rfl⟩
  have hpl : p.length < 1048576 := by rw [hp, partB_all]; exact hn
  have h1 := h64 p
  have h2 := hP p hpl
  have hs : SoundFor Tryd.prog W.cell? [] (.loop (loopNo Tryd.f28 4)) (rO a (P p) hFirst 0) (.exit 0) (rO a (P p) (refS (P p) ((P p).length / 64)) ((P p).length / 64)) :=
    fun d q1 q2 q3 q4 => loopAt (c := d) (inv := fun i => rO a (P p) (refS (P p) i) i) (N := (P p).length / 64) (by simp) (fun i hi => rO_one a hT (P p) _ i q1 q2 q3 q4 (by omega) h2) (rO_end a (P p) _ _ (W := W) q1 q2 q3 q4 (by omega))
  have hy : (⟨outRf (refS (P p) ((P p).length / 64))⟩ : R8 32) = ⟨outRf (refS (P l) ((P l).length / 64))⟩ := by rw [hp, partB_all]
  revert hs hy
  generalize refS (P p) ((P p).length / 64) = h
  generalize (P p).length / 64 = q
  intro hs hy
  refine ⟨fun _ _ => .keep, lps [(4, rO a (P p) hFirst 0, .exit 0, rO a (P p) h q)], ⟨outRf h⟩, [ToldIs (rO a (P p) hFirst 0), p.length < 1048576, ReadB W g l, AllU8 l, ReadT W.cell? a 0 8], ?_, ⟨toldIs _, hpl, readB hg, allU8 l, hT _ _ (by omega), trivial⟩, hy, fun body hb => ?_⟩
  · subst hp
    kernel_rfl
  · obtain rfl := Option.some.inj hb
    exact LoopsFor.cons (by kernel_rfl) hs LoopsFor.nil
end Go.Proofs.YtaloefkkllebeaaDoor

/- SHA-256: the sum is the reference's. -/
namespace Go.Sh
theorem u32_nat (n : Nat) : (u32 (n : Int)).toNat = n % 4294967296 := by
  unfold u32
  have : ((n : Int) % 4294967296).toNat = n % 4294967296 := by omega
  rw [this, UInt32.toNat_ofNat_of_lt' (show _ < 4294967296 by omega)]
theorem b32_nat (x : UInt32) : (b32 x).toNat = x.toNat := by
  show (BitVec.ofInt 32 (x.toNat : Int)).toNat = _
  rw [BitVec.ofInt_natCast, BitVec.toNat_ofNat, Nat.mod_eq_of_lt (show x.toNat < 2 ^ 32 from x.toNat_lt)]
theorem or3_nat (x y : UInt32) : (or3 x y).toNat = x.toNat ||| y.toNat := by
  unfold or3
  rw [u32_nat]
  have h : ((b32 x ||| b32 y) : BitVec 32).toNat = x.toNat ||| y.toNat := by rw [BitVec.toNat_or]; have h1 := b32_nat x; have h2 := b32_nat y; show (b32 x).toNat ||| (b32 y).toNat = _; rw [h1, h2]
  have h2 : (b32 x ||| b32 y).toNat = x.toNat ||| y.toNat := h
  rw [h2]
  have hlt : x.toNat ||| y.toNat < 2 ^ 32 := Nat.or_lt_two_pow x.toNat_lt y.toNat_lt
  exact Nat.mod_eq_of_lt hlt
theorem shl3_nat (x : UInt32) (n : Nat) (h : n ≤ 32) : (shl3 x n).toNat = x.toNat <<< n % 2 ^ 32 := by
  unfold shl3
  have hm : min n IntKind.u32.bits = n := Nat.min_eq_left h
  rw [hm]
  have : (x.toNat : Int) * 2 ^ n = ((x.toNat * 2 ^ n : Nat) : Int) := by
    rw [Int.natCast_mul, Int.natCast_pow]; rfl
  rw [this, u32_nat, Nat.shiftLeft_eq]
theorem or3_comm (x y : UInt32) : or3 x y = or3 y x := UInt32.toNat_inj.1 (by rw [or3_nat, or3_nat, Nat.or_comm])
theorem or3_zero (y : UInt32) : or3 0 y = y := UInt32.toNat_inj.1 (by rw [or3_nat]; simp)
theorem shl3_or (x y : UInt32) {n : Nat} (h : n ≤ 32) : shl3 (or3 x y) n = or3 (shl3 x n) (shl3 y n) := by
  apply UInt32.toNat_inj.1
  rw [shl3_nat _ _ h, or3_nat, or3_nat, shl3_nat _ _ h, shl3_nat _ _ h, Nat.shiftLeft_or_distrib, Nat.or_mod_two_pow]
theorem shl3_shl (x : UInt32) {m n : Nat} (h : m + n ≤ 32) : shl3 (shl3 x m) n = shl3 x (m + n) := by
  apply UInt32.toNat_inj.1
  rw [shl3_nat _ _ (by omega), shl3_nat _ _ (by omega), shl3_nat _ _ h, Nat.shiftLeft_eq, Nat.shiftLeft_eq, Nat.shiftLeft_eq, Nat.mod_mul_mod, Nat.pow_add, Nat.mul_assoc]
theorem shl3_zero (n : Nat) (h : n ≤ 32) : shl3 0 n = 0 := UInt32.toNat_inj.1 (by rw [shl3_nat _ _ h]; simp)
theorem turn3_rot (x : UInt32) (n : Nat) : turn3 x n = rot3 x n := or3_comm _ _
theorem sigR0_eq (x : UInt32) : sigR0 x = sig0 x := by unfold sigR0 sig0; rw [turn3_rot, turn3_rot]
theorem sigR1_eq (x : UInt32) : sigR1 x = sig1 x := by unfold sigR1 sig1; rw [turn3_rot, turn3_rot]
theorem bigR0_eq (x : UInt32) : bigR0 x = big0 x := by unfold bigR0 big0; rw [turn3_rot, turn3_rot, turn3_rot]
theorem bigR1_eq (x : UInt32) : bigR1 x = big1 x := by unfold bigR1 big1; rw [turn3_rot, turn3_rot, turn3_rot]
theorem wStepR_eq (f : Nat → UInt32) (k : Nat) : wStepR f k = wStep f k := by unfold wStepR wStep; rw [sigR0_eq, sigR1_eq]
theorem wItR_eq (f : Nat → UInt32) : ∀ i, wItR f i = wIt f i
  | 0 => rfl
  | i + 1 => by unfold wItR wIt; rw [wItR_eq f i, wStepR_eq]
theorem upd_upd {α : Type} (f : Nat → α) (i : Nat) (x y : α) : upd (upd f i x) i y = upd f i y := by
  funext j; unfold upd; split <;> rfl
theorem upd_at {α : Type} (f : Nat → α) (i : Nat) (x : α) : upd f i x i = x := by unfold upd; rw [if_pos rfl]
theorem hStep_nat (P : List UInt8) (k i kk : Nat) (f : Nat → UInt32) : hStep P k i kk f = upd f i (or3 (shl3 (f i) 8) (byte3 (P.getD (64 * k + 4 * i + kk) 0))) := by
  unfold hStep
  have h1 : (i : Int).toNat = i := rfl
  have h2 : ((((64 * k : Nat) : Int) + 4 * (i : Int)) + (kk : Int)).toNat = 64 * k + 4 * i + kk := by omega
  rw [h1, h2]
theorem headR_eq (P : List UInt8) (g : Nat → UInt8) (k i : Nat) (f : Nat → UInt32) (hf : f i = 0) (hg : ∀ j, j < 64 → g j = P.getD (64 * k + j) 0) (hi : i < 16) : headR P k i f = upd f (i : Int).toNat (wHead g i) := by
  unfold headR
  simp only [hStep_nat, upd_upd, upd_at]
  have h1 : (i : Int).toNat = i := rfl
  have i0 : (4 * (i : Int)).toNat = 4 * i := by omega
  have i1 : (4 * (i : Int) + 1).toNat = 4 * i + 1 := by omega
  have i2 : (4 * (i : Int) + 2).toNat = 4 * i + 2 := by omega
  have i3 : (4 * (i : Int) + 3).toNat = 4 * i + 3 := by omega
  rw [h1, hf]
  congr 1
  unfold wHead
  rw [i0, i1, i2, i3, hg _ (by omega), hg _ (by omega), hg _ (by omega), hg _ (by omega)]
  rw [shl3_zero 8 (by omega), or3_zero]
  rw [shl3_or _ _ (by omega : 8 ≤ 32), shl3_or _ _ (by omega : 8 ≤ 32), shl3_or _ _ (by omega : 8 ≤ 32), shl3_shl _ (by omega), shl3_shl _ (by omega), shl3_shl _ (by omega)]
  simp only [Nat.add_assoc, Nat.add_zero]
theorem z64_zero (j : Nat) : z64 j = 0 := by
  unfold z64
  have key : ∀ (n j : Nat), pickN (0 : UInt32) (List.replicate n (UInt32.ofNat 0)) j = 0 := by
    intro n
    induction n with
    | zero => intro j; rfl
    | succ n ih =>
      intro j
      cases j with
      | zero => rfl
      | succ j => exact ih j
  exact key 64 j
theorem wFirst_later (g : Nat → UInt8) : ∀ (i j : Nat), i ≤ j → wFirst g i j = 0
  | 0, j, _ => z64_zero j
  | i + 1, j, h => by
    show upd (wFirst g i) (i : Int).toNat (wHead g i) j = 0
    have : (i : Int).toNat = i := rfl
    unfold upd
    rw [this, if_neg (by omega), wFirst_later g i j (by omega)]
theorem hIt_eq (P : List UInt8) (g : Nat → UInt8) (k : Nat) (hg : ∀ j, j < 64 → g j = P.getD (64 * k + j) 0) : ∀ i, i ≤ 16 → hIt P k i = wFirst g i
  | 0, _ => rfl
  | i + 1, h => by
    show headR P k i (hIt P k i) = upd (wFirst g i) (i : Int).toNat (wHead g i)
    rw [hIt_eq P g k hg i (by omega)]
    exact headR_eq P g k i _ (wFirst_later g i i (Nat.le_refl _)) hg (by omega)
theorem tabA_round (i : Nat) : tabA (i + 8) = roundK i := rfl
theorem v8_step (kk w : UInt32) (v : Nat → UInt32) : v8 (rStepR kk w v) = rStep kk w (v8 v) := by
  unfold rStepR
  show (add3 (tR kk w v) (uR v), v 0, v 1, v 2, add3 (v 3) (tR kk w v), v 4, v 5, v 6) = _
  unfold rStep tR uR tOf uOf v8
  rw [bigR0_eq, bigR1_eq]
theorem rIt_eq (w v : Nat → UInt32) : ∀ i, v8 (rItR w v i) = rIt w (v8 v) i
  | 0 => rfl
  | i + 1 => by
    show v8 (rStepR (tabA (i + 8)) (w i) (rItR w v i)) = rStep (roundK i) (w i) (rIt w (v8 v) i)
    rw [v8_step, rIt_eq w v i, tabA_round]
theorem refComp_eq (P : List UInt8) (g : Nat → UInt8) (k : Nat) (h : Nat → UInt32) (hg : ∀ j, j < 64 → g j = P.getD (64 * k + j) 0) : refComp P k h = compF h g := by
  unfold refComp compF wordsF
  rw [hIt_eq P g k hg 16 (Nat.le_refl _), wItR_eq]
  show plus8 h (v8 (rItR (wIt (wFirst g 16) 48) h 64)) = _
  rw [rIt_eq]
theorem extB_at (l : List UInt8) : ∀ (n i j : Nat), j < n → pickN 0 (extB l i n) j = l.getD (i + j) 0
  | n + 1, i, 0, _ => rfl
  | n + 1, i, j + 1, h => by
    show pickN 0 (extB l (i + 1) n) j = _
    rw [extB_at l n (i + 1) j (by omega)]
    congr 1
    omega
theorem blkF_at (l : List UInt8) (i j : Nat) (h : j < 64) : blkF l i j = l.getD (i + j) 0 := extB_at l 64 i j h
theorem padL_lo (l : List UInt8) {i : Nat} (h : i < l.length) : (padL l).getD i 0 = l.getD i 0 := by
  unfold padL
  rw [List.getD_eq_getElem?_getD, List.getElem?_append_left h, ← List.getD_eq_getElem?_getD]
theorem padL_mark (l : List UInt8) : (padL l).getD l.length 0 = UInt8.ofNat 128 := by
  unfold padL
  rw [List.getD_eq_getElem?_getD, List.getElem?_append_right (Nat.le_refl _)]
  simp
theorem padL_zero (l : List UInt8) {i : Nat} (h1 : l.length < i) (h2 : i < l.length + 1 + zerosN l.length) : (padL l).getD i 0 = 0 := by
  unfold padL
  rw [List.getD_eq_getElem?_getD, List.getElem?_append_right (by omega)]
  obtain ⟨d, rfl⟩ : ∃ d, i = l.length + (d + 1) := ⟨i - l.length - 1, by omega⟩
  rw [Nat.add_sub_cancel_left, List.getElem?_cons_succ, List.getElem?_append_left (by simp; omega), List.getElem?_replicate, if_pos (by omega)]
  rfl
theorem padL_len8 (l : List UInt8) (i : Nat) : (padL l).getD (l.length + 1 + zerosN l.length + i) 0 = (lens l.length).getD i 0 := by
  unfold padL
  rw [List.getD_eq_getElem?_getD, List.getElem?_append_right (by omega)]
  rw [show l.length + 1 + zerosN l.length + i - l.length = (zerosN l.length + i) + 1 by omega, List.getElem?_cons_succ, List.getElem?_append_right (by simp), List.length_replicate, Nat.add_sub_cancel_left, ← List.getD_eq_getElem?_getD]
theorem pickN_getD {α : Type} (d : α) : ∀ (l : List α) (j : Nat), pickN d l j = l.getD j d
  | [], _ => rfl
  | x :: l, 0 => rfl
  | x :: l, j + 1 => by show pickN d l j = _; rw [pickN_getD d l j]; simp
theorem pad1_at (l : List UInt8) (o r j : Nat) (hr : r < 64) : pad1 l o r j = if j = r then UInt8.ofNat 128 else if j < r then l.getD (o + j) 0 else 0 := by
  unfold pad1 upd
  have h1 : (r : Int).toNat = r := rfl
  rw [h1]
  split
  · rfl
  · unfold pad0
    have hm : min r (64 - 0) = r := by omega
    rw [hm]
    split
    · rename_i hb
      rw [Nat.blt_eq] at hb
      rw [if_pos hb]
    · rename_i hb
      have : ¬ j < r := fun h => by rw [← Nat.blt_eq] at h; rw [h] at hb; cases hb
      rw [if_neg this, pickN_getD]
      have key : ∀ (n j : Nat), (List.replicate n (UInt8.ofNat 0)).getD j 0 = 0 := by
        intro n j
        rw [List.getD_eq_getElem?_getD, List.getElem?_replicate]
        split <;> rfl
      exact key 64 j
end Go.Sh
namespace Go.Proofs.YtaloefkkllebeaaDoor
open Go Go.Sh
theorem shaS_eq (l : List UInt8) : ∀ k, k ≤ l.length / 64 → refS (padL l) k = shaS firstF compF l k
  | 0, _ => rfl
  | k + 1, h => by
    show refComp (padL l) k (refS (padL l) k) = compF (shaS firstF compF l k) (blkF l (offK k))
    rw [shaS_eq l k (by omega)]
    refine refComp_eq _ _ _ _ (fun j hj => ?_)
    rw [blkF_at _ _ _ hj, offK_eq, padL_lo l (by omega)]
theorem four_eq (x : UInt32) : fourR x = four x := by
  have : shrB x 0 = lowB x := by
    unfold shrB lowB
    rw [show min 0 IntKind.u32.bits = 0 from rfl, Nat.pow_zero, Nat.div_one, UInt32.toNat_ofNat_of_lt' x.toNat_lt]
  unfold fourR four
  rw [this]
theorem outRf_eq (f : Nat → UInt32) : outRf f = outF f := by unfold outRf outF; simp only [four_eq]
/-- The sum is the reference's. -/
theorem sum_ref (l : List UInt8) : sumF firstF compF outF l = outRf (refS (padL l) ((padL l).length / 64)) := by
  have hlen := padL_len l
  have hq := Nat.div_add_mod l.length 64
  have hr64 : l.length % 64 < 64 := Nat.mod_lt _ (by decide)
  have hk : lenK l.length (l.length / 64) = l.length % 64 := by rw [lenK_eq]; omega
  have ho : offK (l.length / 64) = 64 * (l.length / 64) := offK_eq _
  unfold sumF
  rw [hk, ho, outRf_eq]
  cases hb : Nat.blt (l.length % 64) 56 with
  | true =>
    rw [Nat.blt_eq] at hb
    have hz : zerosN l.length = 55 - l.length % 64 := by unfold zerosN; omega
    have hP : (padL l).length / 64 = l.length / 64 + 1 := by rw [hlen, hz]; omega
    rw [hP]
    show outF _ = outF (refComp (padL l) (l.length / 64) (refS (padL l) (l.length / 64)))
    rw [shaS_eq l _ (Nat.le_refl _)]
    refine congrArg outF (refComp_eq _ _ _ _ (fun j hj => ?_)).symm
    unfold lastA
    rw [pickN_getD, List.getD_eq_getElem?_getD]
    rcases Nat.lt_or_ge j 56 with h56 | h56
    · rw [List.getElem?_append_left (by simpa using h56), List.getElem?_map, List.getElem?_range h56]
      show pad1 l _ _ j = _
      rw [pad1_at _ _ _ _ hr64]
      split
      · rename_i e; rw [show 64 * (l.length / 64) + j = l.length by omega, padL_mark]
      · split
        · rw [padL_lo l (by omega)]
        · rw [padL_zero l (by omega) (by omega)]
    · rw [List.getElem?_append_right (by simpa using h56), List.length_map, List.length_range, ← List.getD_eq_getElem?_getD]
      rw [show 64 * (l.length / 64) + j = l.length + 1 + zerosN l.length + (j - 56) by omega, padL_len8]
  | false =>
    have hb' : ¬ l.length % 64 < 56 := fun h => by rw [← Nat.blt_eq] at h; rw [h] at hb; cases hb
    have hz : zerosN l.length = 119 - l.length % 64 := by unfold zerosN; omega
    have hP : (padL l).length / 64 = l.length / 64 + 1 + 1 := by rw [hlen, hz]; omega
    rw [hP]
    show outF _ = outF (refComp (padL l) (l.length / 64 + 1) (refComp (padL l) (l.length / 64) (refS (padL l) (l.length / 64))))
    rw [shaS_eq l _ (Nat.le_refl _)]
    have e1 := refComp_eq (padL l) (pad1 l (64 * (l.length / 64)) (l.length % 64)) (l.length / 64) (shaS firstF compF l (l.length / 64)) (fun j hj => by
      rw [pad1_at _ _ _ _ hr64]
      split
      · rename_i e; rw [show 64 * (l.length / 64) + j = l.length by omega, padL_mark]
      · split
        · rw [padL_lo l (by omega)]
        · rw [padL_zero l (by omega) (by omega)])
    have e2 := refComp_eq (padL l) (lastB l.length) (l.length / 64 + 1) (compF (shaS firstF compF l (l.length / 64)) (pad1 l (64 * (l.length / 64)) (l.length % 64))) (fun j hj => by
      unfold lastB
      rw [pickN_getD, List.getD_eq_getElem?_getD]
      rcases Nat.lt_or_ge j 56 with h56 | h56
      · rw [List.getElem?_append_left (by simpa using h56), List.getElem?_replicate, if_pos h56, padL_zero l (by omega) (by omega)]
        rfl
      · rw [List.getElem?_append_right (by simpa using h56), List.length_replicate, ← List.getD_eq_getElem?_getD]
        rw [show 64 * (l.length / 64 + 1) + j = l.length + 1 + zerosN l.length + (j - 56) by omega, padL_len8])
    rw [e1]
    exact congrArg outF e2.symm
end Go.Proofs.YtaloefkkllebeaaDoor

/- SHA-256: contracts of the sums; reckoned examples. -/
namespace Go.Proofs.YtaloefkkllebeaaDoor
open Go Go.Sh
/-- The sum of bytes. -/
def sumL (l : List UInt8) : R8 32 := ⟨sumF firstF compF outF l⟩
theorem addR_ok : RowOK Tryd.prog (addR compF) := (add_of wordsF (.cons words_ok.row (.cons rotRow_ok (.nil _)))).row
theorem blocksR_ok : RowOK Tryd.prog blocksR := rowIn_ok (TblOK.nil _) (ITblOK.nil _) _ 4 Tryd.func84 (by kernel_rfl) (by kernel_rfl)
theorem endingR_ok : RowOK Tryd.prog endingR := rowIn_ok (TblOK.nil _) (ITblOK.nil _) _ 4 Tryd.func90 (by kernel_rfl) (by kernel_rfl)
theorem sum_ok : Computes A Tryd.prog 26 (fun x : GA (Bs × Unit) => sumL x.x.1.l) :=
  sum_of firstF compF outF (.cons addR_ok (.cons first_ok.row (.cons bytesS_ok.row (.cons blocksR_ok (.nil _))))) addR_ok endingR_ok
theorem padL_short (l : List UInt8) (h : l.length < 1048576) : (padL l).length < 2097152 := by
  rw [padL_len]
  have : zerosN l.length < 64 := Nat.mod_lt _ (by decide)
  omega
theorem refSum_ok : Computes A Tryd.prog 28 (fun x : Ptr Mk × Bt × Unit => sumL x.2.1.l) := by
  have h := refSum_of padL (.cons pad_ok.row (.cons turn_ok.row (.nil _))) padL_64 padL_short
  have e : (fun x : Ptr Mk × Bt × Unit => (⟨outRf (refS (padL x.2.1.l) ((padL x.2.1.l).length / 64))⟩ : R8 32)) = fun x : Ptr Mk × Bt × Unit => sumL x.2.1.l := by
    funext x
    unfold sumL
    rw [sum_ref]
  rw [e] at h
  exact h
theorem abc_try : Nat.beq ((sumL [97, 98, 99]).f 0).toNat 186 = true := by kernel_rfl
end Go.Proofs.YtaloefkkllebeaaDoor

/- The law of bytes. -/
import Derived.Test.YtaloefkkllebeaaLi8
set_option linter.unusedVariables false
set_option linter.unusedSimpArgs false
set_option linter.unusedSectionVars false
namespace Go.Proofs.Ytaloefkkllebeaa
open Go Go.Sh
section
variable (Fr : List UInt8 → T2 Num Bool) (B : Num → R8 48) (SB : List UInt8 → List UInt8 → Bool)
def tblLb : List (Row A) :=
  [rowOf A 13 (fun _ : Unit => true), rowOf A 27 (fun x : Bs × Unit => Fr x.1.l), rowOf A 28 (fun x : Bs × Unit => Fr x.1.l), rowOf A 29 (fun x : Num × Unit => B x.1), rowOf A 30 (fun x : Num × Unit => B x.1),
    rowOf A 31 (fun x : Bs × Bs × Unit => SB x.1.l x.2.1.l)]
end
/-- Rows of bytes held against one another. -/
def eqW8 (f g : Nat → UInt8) : Nat → Nat → Bool
  | 0, _ => true
  | n + 1, i => ((f i).toNat : Int) == ((g i).toNat : Int) && eqW8 f g n (i + 1)
theorem eqW8_self (f : Nat → UInt8) : ∀ n i, eqW8 f f n i = true
  | 0, _ => rfl
  | n + 1, i => by simp [eqW8, eqW8_self f n (i + 1)]
def lbO (n : Nat) : Nat → Nat → Dec := fun _ t => match Nat.beq t 64 with | true => .lit ((48 : Int) - n) | false => saysY [(17, false), (37, false), (46, false), (56, false)] 0 t
/-- The last n of 48 bytes. -/
def lastB (n : Nat) (f : Nat → UInt8) : List UInt8 := (List.range' (48 - n) n).map f
def lbVC (Fr : List UInt8 → T2 Num Bool) (B : Num → R8 48) (SB : List UInt8 → List UInt8 → Bool) (n : Nat) (g : Spot) (l : List UInt8) (a : Num) (old : Addr → Option Value) : List Prop :=
  [SB (lastB n (B (Fr (partB l 0 l.length)).a).f) (partB l 0 l.length) = true, Reads old g.a (byteAt (B := FB) l) 0 l.length, AllU8 l, IntKind.i64.wrap (48 - (l.length : Int)) = (48 : Int) - n, (!eqW8 (B a).f (B a).f 48 0) = false, (!eqN (Fr (listB (B a).f)).a a) = false, (!eqN (Fr (partB l 0 l.length)).a (Fr (partB l 0 l.length)).a) = false,
    (Fr (listB (B a).f)).b = true, (Fr (partB l 0 l.length)).b = true, Reads old g.a (byteAt (B := FB) l) 0 l.length, AllU8 l, (Fr (partB l 0 l.length)).b = true, Reads old g.a (byteAt (B := FB) l) 0 l.length, AllU8 l, decide ((l.length : Int) > 200) = false, true = true]
def lbGoal (n : Nat) : Prop := ∀ (Fr : List UInt8 → T2 Num Bool) (B : Num → R8 48) (SB : List UInt8 → List UInt8 → Bool) (g : Spot) (l : List UInt8) (a : Num) (old : Addr → Option Value),
  (run (cfg Try.prog (tblLb Fr B SB) (lbO n) old) 8 Try.f8 (Args.tvs (A := A) (Γ := Bs × Num × Unit) (g, (), ()) (⟨l⟩, a, ())) []).map (retOf (R := Bool)) = some (some true, lbVC Fr B SB n g l a old)
theorem lb0 : lbGoal 0 := fun _ _ _ _ _ _ _ => by kernel_rfl
theorem lb1 : lbGoal 1 := fun _ _ _ _ _ _ _ => by kernel_rfl
theorem lb2 : lbGoal 2 := fun _ _ _ _ _ _ _ => by kernel_rfl
theorem lb3 : lbGoal 3 := fun _ _ _ _ _ _ _ => by kernel_rfl
theorem lb4 : lbGoal 4 := fun _ _ _ _ _ _ _ => by kernel_rfl
theorem lb5 : lbGoal 5 := fun _ _ _ _ _ _ _ => by kernel_rfl
theorem lb6 : lbGoal 6 := fun _ _ _ _ _ _ _ => by kernel_rfl
theorem lb7 : lbGoal 7 := fun _ _ _ _ _ _ _ => by kernel_rfl
theorem lb8 : lbGoal 8 := fun _ _ _ _ _ _ _ => by kernel_rfl
theorem lb9 : lbGoal 9 := fun _ _ _ _ _ _ _ => by kernel_rfl
theorem lb10 : lbGoal 10 := fun _ _ _ _ _ _ _ => by kernel_rfl
theorem lb11 : lbGoal 11 := fun _ _ _ _ _ _ _ => by kernel_rfl
theorem lb12 : lbGoal 12 := fun _ _ _ _ _ _ _ => by kernel_rfl
theorem lb13 : lbGoal 13 := fun _ _ _ _ _ _ _ => by kernel_rfl
theorem lb14 : lbGoal 14 := fun _ _ _ _ _ _ _ => by kernel_rfl
theorem lb15 : lbGoal 15 := fun _ _ _ _ _ _ _ => by kernel_rfl
theorem lb16 : lbGoal 16 := fun _ _ _ _ _ _ _ => by kernel_rfl
theorem lb17 : lbGoal 17 := fun _ _ _ _ _ _ _ => by kernel_rfl
theorem lb18 : lbGoal 18 := fun _ _ _ _ _ _ _ => by kernel_rfl
theorem lb19 : lbGoal 19 := fun _ _ _ _ _ _ _ => by kernel_rfl
theorem lb20 : lbGoal 20 := fun _ _ _ _ _ _ _ => by kernel_rfl
theorem lb21 : lbGoal 21 := fun _ _ _ _ _ _ _ => by kernel_rfl
theorem lb22 : lbGoal 22 := fun _ _ _ _ _ _ _ => by kernel_rfl
theorem lb23 : lbGoal 23 := fun _ _ _ _ _ _ _ => by kernel_rfl
theorem lb24 : lbGoal 24 := fun _ _ _ _ _ _ _ => by kernel_rfl
theorem lb25 : lbGoal 25 := fun _ _ _ _ _ _ _ => by kernel_rfl
theorem lb26 : lbGoal 26 := fun _ _ _ _ _ _ _ => by kernel_rfl
theorem lb27 : lbGoal 27 := fun _ _ _ _ _ _ _ => by kernel_rfl
theorem lb28 : lbGoal 28 := fun _ _ _ _ _ _ _ => by kernel_rfl
theorem lb29 : lbGoal 29 := fun _ _ _ _ _ _ _ => by kernel_rfl
theorem lb30 : lbGoal 30 := fun _ _ _ _ _ _ _ => by kernel_rfl
theorem lb31 : lbGoal 31 := fun _ _ _ _ _ _ _ => by kernel_rfl
theorem lb32 : lbGoal 32 := fun _ _ _ _ _ _ _ => by kernel_rfl
theorem lb33 : lbGoal 33 := fun _ _ _ _ _ _ _ => by kernel_rfl
theorem lb34 : lbGoal 34 := fun _ _ _ _ _ _ _ => by kernel_rfl
theorem lb35 : lbGoal 35 := fun _ _ _ _ _ _ _ => by kernel_rfl
theorem lb36 : lbGoal 36 := fun _ _ _ _ _ _ _ => by kernel_rfl
theorem lb37 : lbGoal 37 := fun _ _ _ _ _ _ _ => by kernel_rfl
theorem lb38 : lbGoal 38 := fun _ _ _ _ _ _ _ => by kernel_rfl
theorem lb39 : lbGoal 39 := fun _ _ _ _ _ _ _ => by kernel_rfl
theorem lb40 : lbGoal 40 := fun _ _ _ _ _ _ _ => by kernel_rfl
theorem lb41 : lbGoal 41 := fun _ _ _ _ _ _ _ => by kernel_rfl
theorem lb42 : lbGoal 42 := fun _ _ _ _ _ _ _ => by kernel_rfl
theorem lb43 : lbGoal 43 := fun _ _ _ _ _ _ _ => by kernel_rfl
theorem lb44 : lbGoal 44 := fun _ _ _ _ _ _ _ => by kernel_rfl
theorem lb45 : lbGoal 45 := fun _ _ _ _ _ _ _ => by kernel_rfl
theorem lb46 : lbGoal 46 := fun _ _ _ _ _ _ _ => by kernel_rfl
theorem lb47 : lbGoal 47 := fun _ _ _ _ _ _ _ => by kernel_rfl
theorem lb48 : lbGoal 48 := fun _ _ _ _ _ _ _ => by kernel_rfl
theorem lb_all : ∀ n, n ≤ 48 → lbGoal n
  | 0, _ => lb0
  | 1, _ => lb1
  | 2, _ => lb2
  | 3, _ => lb3
  | 4, _ => lb4
  | 5, _ => lb5
  | 6, _ => lb6
  | 7, _ => lb7
  | 8, _ => lb8
  | 9, _ => lb9
  | 10, _ => lb10
  | 11, _ => lb11
  | 12, _ => lb12
  | 13, _ => lb13
  | 14, _ => lb14
  | 15, _ => lb15
  | 16, _ => lb16
  | 17, _ => lb17
  | 18, _ => lb18
  | 19, _ => lb19
  | 20, _ => lb20
  | 21, _ => lb21
  | 22, _ => lb22
  | 23, _ => lb23
  | 24, _ => lb24
  | 25, _ => lb25
  | 26, _ => lb26
  | 27, _ => lb27
  | 28, _ => lb28
  | 29, _ => lb29
  | 30, _ => lb30
  | 31, _ => lb31
  | 32, _ => lb32
  | 33, _ => lb33
  | 34, _ => lb34
  | 35, _ => lb35
  | 36, _ => lb36
  | 37, _ => lb37
  | 38, _ => lb38
  | 39, _ => lb39
  | 40, _ => lb40
  | 41, _ => lb41
  | 42, _ => lb42
  | 43, _ => lb43
  | 44, _ => lb44
  | 45, _ => lb45
  | 46, _ => lb46
  | 47, _ => lb47
  | 48, _ => lb48
  | n + 49, h => absurd h (by omega)
theorem bytes_of (Fr : List UInt8 → T2 Num Bool) (B : Num → R8 48) (SB : List UInt8 → List UInt8 → Bool) (ht : TblOK Try.prog (tblLb Fr B SB)) (h1 : ∀ l, (Fr l).b = decide (l.length ≤ 48)) (h2 : ∀ a, (Fr (listB (B a).f)).a = a) (h3 : ∀ l, l.length ≤ 48 → SB (lastB l.length (B (Fr l).a).f) l = true) :
    Computes A Try.prog 8 (fun _ : Bs × Num × Unit => true) := by
  refine computes_of_run ht Try.func8 (by kernel_rfl) (by kernel_rfl) 8 ?_
  rintro ⟨g, _, _⟩ ⟨⟨l⟩, a, ⟨⟩⟩ W ⟨k0, _⟩
  have k0 : HasBytes W l g := k0
  have hr : Reads W.cell? g.a (byteAt (B := FB) l) 0 l.length := reads_bytes k0 (by omega)
  have hu : AllU8 l := isU8_bytes l 0 l.length
  by_cases hl : l.length ≤ 200
  · have t1 : decide ((l.length : Int) > 200) = false := decide_eq_false (by omega)
    have hp : partB l 0 l.length = l := partB_all l
    have e1 : (!eqN (Fr (listB (B a).f)).a a) = false := by rw [h2, eqN_self]; rfl
    have e2 : (Fr (listB (B a).f)).b = true := by rw [h1]; exact decide_eq_true (by simp [listB])
    have e3 : (!eqN (Fr (partB l 0 l.length)).a (Fr (partB l 0 l.length)).a) = false := by rw [eqN_self]; rfl
    have e4 : (!eqW8 (B a).f (B a).f 48 0) = false := by rw [eqW8_self]; rfl
    by_cases h : l.length ≤ 48
    · have ok : (Fr (partB l 0 l.length)).b = true := by rw [h1, hp]; exact decide_eq_true h
      refine ⟨lbO l.length, true, lbVC Fr B SB l.length g l a W.cell?, lb_all l.length h Fr B SB g l a W.cell?, ⟨?_, hr, hu, wrapI (by omega) (by omega), e4, e1, e3, e2, ok, hr, hu, ok, hr, hu, t1, rfl, trivial⟩, rfl⟩
      rw [hp]
      exact h3 l h
    · have no : (Fr (partB l 0 l.length)).b = false := by rw [h1, hp]; exact decide_eq_false h
      exact ⟨saysY [(17, false), (22, false), (27, false), (37, false), (46, false), (56, false)], true, [(!eqW8 (B a).f (B a).f 48 0) = false, (!eqN (Fr (listB (B a).f)).a a) = false, (!eqN (Fr (partB l 0 l.length)).a (Fr (partB l 0 l.length)).a) = false, (Fr (listB (B a).f)).b = true, (Fr (partB l 0 l.length)).b = false, Reads W.cell? g.a (byteAt (B := FB) l) 0 l.length, AllU8 l, (Fr (partB l 0 l.length)).b = false, Reads W.cell? g.a (byteAt (B := FB) l) 0 l.length, AllU8 l, decide ((l.length : Int) > 200) = false, true = true], by kernel_rfl,
        ⟨e4, e1, e3, e2, no, hr, hu, no, hr, hu, t1, rfl, trivial⟩, rfl⟩
  · exact ⟨saysY [], true, [decide ((l.length : Int) > 200) = true, true = true], by kernel_rfl, ⟨decide_eq_true (by omega), rfl, trivial⟩, rfl⟩
theorem numB_inj : ∀ (n : Nat) {l r : List UInt8}, l.length = n → r.length = n → numB l = numB r → l = r
  | 0, l, r, h1, h2, _ => by rw [List.eq_nil_of_length_eq_zero h1, List.eq_nil_of_length_eq_zero h2]
  | n + 1, l, r, h1, h2, e => by
    rcases List.eq_nil_or_concat l with rfl | ⟨l', x, rfl⟩
    · simp at h1
    rcases List.eq_nil_or_concat r with rfl | ⟨r', y, rfl⟩
    · simp at h2
    simp only [List.concat_eq_append] at h1 h2 e ⊢
    rw [numB_snoc, numB_snoc] at e
    have hx : x.toNat < 256 := x.toNat_lt
    have hy : y.toNat < 256 := y.toNat_lt
    have e1 : x = y := UInt8.toNat_inj.1 (by omega)
    have e2 := numB_inj n (l := l') (r := r') (by simpa using h1) (by simpa using h2) (by omega)
    rw [e1, e2]
theorem lastB_num (n N : Nat) (hn : n ≤ 48) (h : N < 256 ^ n) : numB (lastB n (byteN N)) = N := by
  have e : lastB n (byteN N) = (List.range n).map fun i => UInt8.ofNat (N / 256 ^ (n - 1 - i) % 256) := by
    unfold lastB
    rw [List.range'_eq_map_range, List.map_map]
    apply List.map_congr_left
    intro i hi
    have hi : i < n := List.mem_range.1 hi
    show UInt8.ofNat (N / 256 ^ (47 - (48 - n + i)) % 256) = _
    rw [show 47 - (48 - n + i) = n - 1 - i by omega]
  rw [e, numB_range, Nat.mod_eq_of_lt h]
theorem limbsBytesLaw_ok : Computes A Try.prog 8 (fun _ : Bs × Num × Unit => true) := by
  refine bytes_of fromB (fun a => bytesN a.val) (fun a b => a == b) (.cons known2_ok.row (.cons limbsFrom_ok.row (.cons refFrom_ok.row (.cons limbsBytes_ok.row (.cons refBytes_ok.row (.cons sameBytes_ok.row (.nil _)))))) ) (fun l => rfl) (fun a => ?_) (fun l hl => ?_)
  · have hlt : a.val < 256 ^ 48 := Nat.lt_of_lt_of_le a.isLt (by decide)
    apply Fin.ext
    show (numOfB (listB (bytesN a.val).f)).val = a.val
    unfold numOfB
    have e : listB (bytesN a.val).f = (List.range 48).map (byteN a.val) := rfl
    have h5 := numB_bytesN (n := a.val) hlt
    rw [e]
    generalize hL : (List.range 48).map (byteN a.val) = L at h5
    have hl : L.length ≤ 48 := by rw [← hL]; simp
    rw [dif_pos hl]
    exact h5
  · have hlt := numB_cons_le l
    have hv : (fromB l).a.val = numB l := by
      show (numOfB l).val = numB l
      unfold numOfB
      rw [dif_pos hl]
    show (lastB l.length (byteN (fromB l).a.val) == l) = true
    rw [hv]
    have he : lastB l.length (byteN (numB l)) = l := numB_inj l.length (by simp [lastB]) rfl (lastB_num l.length (numB l) hl hlt)
    rw [he]
    exact beq_self_eq_true l
end Go.Proofs.Ytaloefkkllebeaa

/- SHA-256: pairs; rows of numbers held against one another. -/
import Derived.Test.YtaloefkkllebeaaDoorTb
import Derived.Test.YtaloefkkllebeaaDoorEn3
set_option linter.unusedVariables false
set_option linter.unusedSimpArgs false
set_option linter.unusedSectionVars false
set_option maxRecDepth 100000
namespace Go.Sh
/-- Two sums, behind one another. -/
def both (a b : Nat → UInt8) : Nat → UInt8 := pickN 0 ((List.range 32).map a ++ (List.range 32).map b)
/-- The block behind one of 64 bytes. -/
def end64 : Nat → UInt8 := pickN 0 (UInt8.ofNat 128 :: (List.replicate 55 (UInt8.ofNat 0) ++ [UInt8.ofNat 0, UInt8.ofNat 0, UInt8.ofNat 0, UInt8.ofNat 0, UInt8.ofNat 0, UInt8.ofNat 0, UInt8.ofNat 2, UInt8.ofNat 0]))
/-- Are rows of bytes the same, from i on? -/
def eqB (a b : Nat → UInt8) (i : Nat) : Nat → Bool
  | 0 => true
  | n + 1 => (((a i).toNat : Int) == ((b i).toNat : Int)) && eqB a b (i + 1) n
theorem eqB_eq (a b : Nat → UInt8) : ∀ n i, eqB a b i n = true ↔ ∀ j, j < n → a (i + j) = b (i + j)
  | 0, i => by simp [eqB]
  | n + 1, i => by
    simp only [eqB, Bool.and_eq_true, eqB_eq a b n (i + 1), beq_iff_eq]
    constructor
    · rintro ⟨h1, h2⟩ j hj
      cases j with
      | zero => exact UInt8.toNat_inj.1 (by simpa using Int.ofNat.inj h1)
      | succ j => have := h2 j (by omega); rwa [show i + 1 + j = i + (j + 1) by omega] at this
    · intro h
      refine ⟨by have := h 0 (by omega); rw [Nat.add_zero] at this; rw [this], fun j hj => ?_⟩
      have := h (j + 1) (by omega)
      rwa [show i + (j + 1) = i + 1 + j by omega] at this
theorem eqB_self (a : Nat → UInt8) (n i : Nat) : eqB a a i n = true := (eqB_eq a a n i).2 (fun _ _ => rfl)
end Go.Sh
namespace Go.Proofs.YtaloefkkllebeaaDoor
open Go Go.Sh
section
variable (Fst : Nat → UInt32) (C : (Nat → UInt32) → (Nat → UInt8) → (Nat → UInt32)) (O : (Nat → UInt32) → (Nat → UInt8))
noncomputable def tblPair : List (Row A) :=
  [addR C, rowOf A 85 (fun _ : Unit => (⟨Fst⟩ : R32 8)), rowOf A 87 (fun x : Ptr (R32 8) × Unit => (⟨O x.1.x.f⟩ : R8 32)), endingR]
theorem pair_of (ht : TblOK Tryd.prog (tblPair Fst C O)) : Computes A Tryd.prog 33 (fun x : GA (R8 32 × R8 32 × Unit) => (⟨O (C (C Fst (both x.x.1.f x.x.2.1.f)) end64)⟩ : R8 32)) := by
  refine computes_of_runT Tryd.func33 (by kernel_rfl) (by kernel_rfl) 8 ?_
  rintro _ ⟨⟨⟨a⟩, ⟨b⟩, ⟨⟩⟩⟩ W ⟨hr, _⟩
  refine ⟨_, [iter Tryd.prog [] [] (fun _ _ => .keep) 12 120 Tryd.f120], ht, .cons (iter_ok (TblOK.nil _) (ITblOK.nil _) _ 12 Tryd.func120 (by kernel_rfl) (by kernel_rfl)) (ITblOK.nil _), fun _ _ => .keep, noLoop,
    ⟨O (C (C Fst (both a b)) end64)⟩, [RoundsIn W.cell?, ∀ j, j < min 0 (64 - 0) → ∃ x, (fun q : Nat => (Atom.dummy : A)) (0 + j) = .u8 x, RoundsIn W.cell?], by kernel_rfl, ⟨hr, fun j hj => by simp at hj, hr, trivial⟩, rfl, fun body _ => loopsFor_none⟩
end
def pairR8 (a b : R8 32) : R8 32 := ⟨outF (compF (compF firstF (both a.f b.f)) end64)⟩
theorem pair_ok : Computes A Tryd.prog 33 (fun x : GA (R8 32 × R8 32 × Unit) => pairR8 x.x.1 x.x.2.1) :=
  pair_of firstF compF outF (.cons addR_ok (.cons first_ok.row (.cons bytesS_ok.row (.cons endingR_ok (.nil _)))))
theorem pair_try : Nat.beq ((pairR8 ⟨pickN 0 (List.replicate 32 (UInt8.ofNat 0))⟩ ⟨pickN 0 (List.replicate 32 (UInt8.ofNat 0))⟩).f 0).toNat 245 = true := by kernel_rfl
end Go.Proofs.YtaloefkkllebeaaDoor

/- SHA-256: the examples. -/
namespace Go.Sh
section
variable {A : Type} [Atom A]
/-- A row of a function that leaves the caller's block as it is. -/
def readRow {Δ Γ R : Type} [Rep A Δ] [Args A Γ] [Res A R] (g : FuncId) (ty : TypeId) (os : List Nat) (f : Δ → Γ → R) : Row A where
  g := g
  e := fun old args m =>
    match args with
    | .val false [.p i o] :: _ =>
      match ptrsOf i os args, nth m i with
      | some rest, some (some blk) =>
        if blk.ro = false ∧ blk.ty = ty then
          match Rep.parse (T := Δ) blk.cells, Args.parse (Γ := Γ) old (setN m i none) rest with
          | some d, some (x, vc) => some (Res.tv (f d x), none, vc)
          | _, _ => none
        else none
      | _, _ => none
    | _ => none
theorem Turns.read {P : Program} {Δ Γ R : Type} [Rep A Δ] [Args A Γ] [Res A R] {g : FuncId} {ty : TypeId} {os : List Nat} {f : Δ → Γ → R} (h : Turns A P g ty os (fun d x => (d, f d x))) : RowOK P (readRow (A := A) g ty os f) := by
  intro c args m res mm vc _ he hvc X W0 W β vs _ hm hvs
  simp only [readRow] at he
  split at he
  · rename_i i o tl
    split at he
    · rename_i rest blk hrest hi
      split at he
      · rename_i hrt
        obtain ⟨hro, hty⟩ := hrt
        split at he
        · rename_i d x vc' hd hx
          simp at he
          obtain ⟨rfl, rfl, rfl⟩ := he
          have hvs' := hvs
          obtain ⟨v0, r0, k1, k2, rfl⟩ := hvs'
          obtain ⟨b, hb, _⟩ := LIs.single (k1 : LIs β _ [v0])
          obtain ⟨vs', hv1, hv2⟩ := ptrsOf_is hb hrest hvs
          obtain ⟨b', us, fz, g1, g2, g3, g4⟩ := hm.mem' hi hb
          obtain rfl : b' = b := Option.some.inj (g1.symm.trans hb)
          obtain ⟨rfl, gx⟩ := g4 hro
          have hus := Rep.ok (A := A) hd g2
          rw [hus, hty] at g3
          obtain ⟨gh, hg, hvals⟩ := Args.ok hx hvc (hm.gone hi hb hro) hv2
          rw [hv1, hvals]
          refine (h gh d x W b' g3 hg).mono ?_
          rintro v W' ⟨rfl, hW', hext, hnc⟩
          refine ⟨fun _ _ => False, Fresh.none W W', Res.is _ _, hext.os, hext.tape, hext.output, hext.size, fun k hk _ => ?_⟩
          by_cases e : k = b'
          · rw [e, hW', g3]
          · exact hext.block k hk e
        · cases he
      · cases he
    · cases he
  · cases he
end
def abcL : List UInt8 := UInt8.ofNat 97 :: UInt8.ofNat 98 :: UInt8.ofNat 99 :: List.replicate 61 (UInt8.ofNat 0)
def sameB : List UInt8 → List UInt8 → Bool
  | [], [] => true
  | x :: l, y :: r => (match Nat.beq x.toNat y.toNat with | true => sameB l r | false => false)
  | _, _ => false
theorem sameB_eq : ∀ {l r : List UInt8}, sameB l r = true → l = r
  | [], [], _ => rfl
  | x :: l, y :: r, h => by
    unfold sameB at h
    split at h
    · rename_i hb
      rw [UInt8.toNat_inj.1 (Nat.eq_of_beq_eq_true hb), sameB_eq h]
    · cases h
  | [], _ :: _, h => by cases h
  | _ :: _, [], h => by cases h
/-- A hash that has been given three bytes. -/
inductive Habc where
  | mk
def habcParse (l : List (SV A)) : Option Habc :=
  match l with
  | .v (.bool true) :: l1 =>
    match splitC l1 8 with
    | some (a, r1) =>
      match splitC r1 64 with
      | some (b, [.v (.int .u64 (.ofNat k))]) =>
        match words32 (flat a), bytesL (flat b) with
        | some w, some q => (match sameW w firstL, sameB q abcL, Nat.beq k 3 with | true, true, true => some .mk | _, _, _ => none)
        | _, _ => none
      | _ => none
    | none => none
  | _ => none
theorem cells_first : Atom.cells (At.w32 8 firstF : A) = firstL.map fun x => Value.int .u32 x.toNat := r32_vals firstL rfl
theorem cells_abc : Atom.cells (At.w8 64 (pickN 0 abcL) : A) = abcL.map fun x => Value.int .u8 x.toNat := r8_vals abcL rfl
instance : Rep A Habc where
  agg := true
  shw _ := [.v (.bool true), .a (.w32 8 firstF), .a (.w8 64 (pickN 0 abcL)), .v (.int .u64 3)]
  vals _ := Value.bool true :: (Atom.cells (At.w32 8 firstF : A) ++ (Atom.cells (At.w8 64 (pickN 0 abcL) : A) ++ [Value.int .u64 3]))
  parse := habcParse
  is β _ := ⟨[_], _, ⟨rfl, rfl⟩, ⟨_, _, rfl, ⟨_, _, rfl, ⟨[_], [], ⟨rfl, rfl⟩, rfl, rfl⟩, rfl⟩, rfl⟩, rfl⟩
  only := by
    rintro β x vs ⟨u1, y1, ⟨rfl, _⟩, ⟨u2, y2, h2, ⟨u3, y3, h3, ⟨u4, y4, ⟨rfl, _⟩, h4, rfl⟩, rfl⟩, rfl⟩, rfl⟩
    obtain rfl : y4 = [] := h4
    have e2 : u2 = _ := h2
    have e3 : u3 = _ := h3
    rw [e2, e3]
    rfl
  ok := by
    intro β l x vs h e
    unfold habcParse at h
    split at h
    · rename_i l1
      obtain ⟨u1, y1, ⟨rfl, _⟩, e1, rfl⟩ := e
      split at h
      · rename_i a r1 hs1
        obtain ⟨g1, g2, _⟩ := splitC_is e1 hs1
        split at h
        · rename_i b k hs2
          obtain ⟨g3, g4, _⟩ := splitC_is g2 hs2
          split at h
          · rename_i w q hw hq
            split at h
            · rename_i b1 b2 b3
              have f1 := words32_is (flat_is g1) hw
              have f2 := bytesL_is (flat_is g3) hq
              obtain ⟨u4, y4, ⟨e4, _⟩, h4, e5⟩ := g4
              obtain rfl : y4 = [] := h4
              rw [sameW_eq b1] at f1
              rw [sameB_eq b2] at f2
              rw [e4, Nat.eq_of_beq_eq_true b3, List.append_nil] at e5
              rw [cells_first, cells_abc, ← f1, ← f2]
              show Value.bool true :: y1 = _
              have t1 := List.take_append_drop 8 y1
              have t2 := List.take_append_drop 64 (y1.drop 8)
              rw [e5] at t2
              have t3 : List.take 64 (List.drop 8 y1) ++ [Value.int IntKind.u64 3] = List.drop 8 y1 := t2
              rw [t3, t1]
            · cases h
          · cases h
        · cases h
      · cases h
    · cases h
  single h := by cases h
end Go.Sh
namespace Go.Proofs.YtaloefkkllebeaaDoor
open Go Go.Sh
def abc : List UInt8 := [UInt8.ofNat 97, UInt8.ofNat 98, UInt8.ofNat 99]
noncomputable def itE : List (IRow A) := [iter Tryd.prog [] [] (fun _ _ => .keep) 12 120 Tryd.f120]
theorem itE_ok : ITblOK (A := A) Tryd.prog itE := .cons (iter_ok (TblOK.nil _) (ITblOK.nil _) _ 12 Tryd.func120 (by kernel_rfl) (by kernel_rfl)) (ITblOK.nil _)
theorem hsum_abc (C : (Nat → UInt32) → (Nat → UInt8) → (Nat → UInt32)) (O : (Nat → UInt32) → (Nat → UInt8)) (ht : TblOK Tryd.prog (tblPair firstF C O)) : Turns A Tryd.prog 37 42 [0] (fun (d : Habc) (_ : GA Unit) => (d, (⟨sumF firstF C O abc⟩ : R8 32))) := by
  refine turns_of_runT Tryd.func37 (by kernel_rfl) (by kernel_rfl) 10 ?_
  rintro _ ⟨⟩ ⟨⟨⟩⟩ W ⟨hr, _⟩
  exact ⟨_, itE, ht, itE_ok, fun _ _ => .keep, noLoop, ⟨sumF firstF C O abc⟩, .mk, [RoundsIn W.cell?], by kernel_rfl, ⟨hr, trivial⟩, rfl, fun body _ => loopsFor_none⟩
theorem tblPair_ok : TblOK Tryd.prog (tblPair firstF compF outF) := .cons addR_ok (.cons first_ok.row (.cons bytesS_ok.row (.cons endingR_ok (.nil _))))
noncomputable def writeR : Row A := rowIn Tryd.prog [rowOf A 85 (fun _ : Unit => (⟨firstF⟩ : R32 8))] [] (fun _ _ => .keep) 8 35 Tryd.f35
theorem writeR_ok : RowOK Tryd.prog writeR := rowIn_ok (.cons first_ok.row (.nil _)) (ITblOK.nil _) _ 8 Tryd.func35 (by kernel_rfl) (by kernel_rfl)
noncomputable def tblKn (S : List UInt8 → R8 32) (Pr : R8 32 → R8 32 → R8 32) : List (Row A) :=
  [rowOf A 26 (fun x : GA (Bs × Unit) => S x.x.1.l), rowOf A 33 (fun x : GA (R8 32 × R8 32 × Unit) => Pr x.x.1 x.x.2.1), blocksR, writeR, readRow 37 42 [0] (fun (d : Habc) (_ : GA Unit) => S abc)]
noncomputable def itKn : List (IRow A) := [iter Tryd.prog [endingR] itE (fun _ _ => .keep) 8 117 Tryd.f117]
end Go.Proofs.YtaloefkkllebeaaDoor

/- SHA-256: the examples hold. -/
namespace Go.Proofs.YtaloefkkllebeaaDoor
open Go Go.Sh
/-- All tests hold, but for those of a list. -/
def saysY (l : List (Nat × Bool)) : Nat → Nat → Dec := fun _ t =>
  match l with
  | [] => .take true
  | (d, b) :: r => match Nat.beq d t with | true => .take b | false => saysY r 0 t
def zR : R8 32 := ⟨pickN 0 (List.replicate 32 (UInt8.ofNat 0))⟩
theorem known_of (S : List UInt8 → R8 32) (Pr : R8 32 → R8 32 → R8 32) (ht : TblOK Tryd.prog (tblKn S Pr)) (h0 : ((((S abc).f 0).toNat : Int) == 186) = true) (h1 : ((((S abc).f 1).toNat : Int) == 120) = true) (h31 : ((((S abc).f 31).toNat : Int) == 173) = true)
    (hp : ((((Pr zR zR).f 0).toNat : Int) == 245) = true) : Computes A Tryd.prog 24 (fun _ : GA Unit => true) := by
  have hn : ((((S abc).f 0).toNat : Int) != 186) = false := by rw [bne, h0]; rfl
  have hi : ITblOK (A := A) Tryd.prog itKn := .cons (iter_ok (.cons endingR_ok (.nil _)) itE_ok _ 8 Tryd.func117 (by kernel_rfl) (by kernel_rfl)) (ITblOK.nil _)
  refine computes_of_runW ht hi Tryd.func24 (by kernel_rfl) (by kernel_rfl) 8 ?_
  rintro _ ⟨⟨⟩⟩ W ⟨hr, _⟩
  exact ⟨saysY [(10, false), (15, false)], noLoop, true, [((((Pr zR zR).f 0).toNat : Int) == 245) = true, RoundsIn W.cell?, eqB (S abc).f (S abc).f 0 32 = true, RoundsIn W.cell?, ((((S abc).f 31).toNat : Int) == 173) = true, ((((S abc).f 1).toNat : Int) == 120) = true, ((((S abc).f 0).toNat : Int) == 186) = true, ((((S abc).f 0).toNat : Int) != 186) = false, RoundsIn W.cell?], by kernel_rfl,
    ⟨hp, hr, eqB_self _ _ _, hr, h31, h1, h0, hn, hr, trivial⟩, rfl, fun body _ => loopsFor_none⟩
theorem abc0 : ((((sumL abc).f 0).toNat : Int) == 186) = true := by kernel_rfl
theorem abc1 : ((((sumL abc).f 1).toNat : Int) == 120) = true := by kernel_rfl
theorem abc31 : ((((sumL abc).f 31).toNat : Int) == 173) = true := by kernel_rfl
theorem pair0 : ((((pairR8 zR zR).f 0).toNat : Int) == 245) = true := by kernel_rfl
theorem hsumR_ok : RowOK Tryd.prog (readRow (A := A) 37 42 [0] (fun (d : Habc) (_ : GA Unit) => sumL abc)) := (hsum_abc compF outF tblPair_ok).read
theorem known_ok : Computes A Tryd.prog 24 (fun _ : GA Unit => true) :=
  known_of sumL pairR8 (.cons sum_ok.row (.cons pair_ok.row (.cons blocksR_ok (.cons writeR_ok (.cons hsumR_ok (.nil _)))))) abc0 abc1 abc31 pair0
end Go.Proofs.YtaloefkkllebeaaDoor

/- SHA-256: copies, bytes held against one another, the maker; the law of sums. -/
namespace Go.Proofs.YtaloefkkllebeaaDoor
open Go Go.Sh
theorem table_ok : RowOK Tryd.prog (rowIn (A := A) Tryd.prog [] [] (fun _ _ => .keep) 4 88 Tryd.f88) := rowIn_ok (TblOK.nil _) (ITblOK.nil _) _ 4 Tryd.func88 (by kernel_rfl) (by kernel_rfl)
theorem new_ok : Computes A Tryd.prog 27 (fun _ : Unit => (⟨.mk⟩ : Pz Mk)) := by
  refine computes_of_run (.cons table_ok (.nil _)) Tryd.func27 (by kernel_rfl) (by kernel_rfl) 4 ?_
  rintro ⟨⟩ ⟨⟩ W -
  exact ⟨fun _ _ => .keep, ⟨.mk⟩, [], by kernel_rfl, trivial, rfl⟩
theorem copy_ok : Computes A Tryd.prog 25 (fun x : Bt × Unit => (⟨x.1.l⟩ : Bz)) := by
  refine computes_of_run (TblOK.nil _) Tryd.func25 (by kernel_rfl) (by kernel_rfl) 4 ?_
  rintro ⟨g, _⟩ ⟨⟨l⟩, ⟨⟩⟩ W ⟨⟨hg, hn⟩, _⟩
  have hg : HasBytes W l g := hg
  have hn : l.length < 1048576 := hn
  exact ⟨fun _ _ => .keep, ⟨outR8 l []⟩, [∀ j, j < l.length → isU8 (GR l [] (0 + j)) = true, Sh.Bears l.length 1, ReadB W g l], by kernel_rfl, ⟨GR_isU8 l [], bears (by omega), readB hg, trivial⟩, by rw [outR8_eq]; simp⟩
abbrev AllB (l : List UInt8) : Prop := ∀ q, q < l.length → Atom.isByte (byteAt (B := FB) l (0 + q)) = true
theorem sameBytes_ok : Computes A Tryd.prog 29 (fun x : Bs × Bs × Unit => x.1.l == x.2.1.l) := by
  refine computes_of_run (TblOK.nil _) Tryd.func29 (by kernel_rfl) (by kernel_rfl) 4 ?_
  rintro ⟨g1, g2, _⟩ ⟨⟨x⟩, ⟨y⟩, ⟨⟩⟩ W ⟨k1, k2, _⟩
  have k1 : HasBytes W x g1 := k1
  have k2 : HasBytes W y g2 := k2
  refine ⟨fun _ _ => .keep, (partB x 0 x.length == partB y 0 y.length), [AllB y, ReadB W g2 y, AllB x, ReadB W g1 x], by kernel_rfl, ⟨fun _ _ => rfl, readB k2, fun _ _ => rfl, readB k1, trivial⟩, ?_⟩
  rw [partB_all, partB_all]
noncomputable def tblSs (S : List UInt8 → R8 32) (Cp : List UInt8 → List UInt8) (Eq : List UInt8 → List UInt8 → Bool) : List (Row A) :=
  [rowOf A 24 (fun _ : GA Unit => true), rowOf A 26 (fun x : GA (Bs × Unit) => S x.x.1.l), rowOf A 28 (fun x : Ptr Mk × Bt × Unit => S x.2.1.l), rowOf A 27 (fun _ : Unit => (⟨.mk⟩ : Pz Mk)),
    rowOf A 25 (fun x : Bt × Unit => (⟨Cp x.1.l⟩ : Bz)), rowOf A 29 (fun x : Bs × Bs × Unit => Eq x.1.l x.2.1.l)]
def TabsAre : Prop := ∀ j, j < 72 → ((fun j => (.u32 (tabA j) : A)) (0 + j)) = .u32 (tabA j)
theorem tabsAre : TabsAre := fun j _ => by show (At.u32 (tabA (0 + j)) : A) = _; rw [Nat.zero_add]
theorem shaSums_of (S : List UInt8 → R8 32) (Cp : List UInt8 → List UInt8) (Eq : List UInt8 → List UInt8 → Bool) (ht : TblOK Tryd.prog (tblSs S Cp Eq)) (hC : ∀ l, Cp l = l) (hE : ∀ l, Eq l l = true) :
    Computes A Tryd.prog 3 (fun _ : GA (Bs × Unit) => true) := by
  refine computes_of_run ht Tryd.func3 (by kernel_rfl) (by kernel_rfl) 8 ?_
  rintro ⟨g, _⟩ ⟨⟨⟨l⟩, ⟨⟩⟩⟩ W ⟨hr, hg, _⟩
  have hg : HasBytes W l g := hg
  by_cases hl : l.length ≤ 5000
  · obtain ⟨p, hp⟩ : ∃ p, p = partB l 0 l.length := ⟨_, rfl⟩
    have hpl : p = l := by rw [hp, partB_all]
    obtain ⟨q, hq⟩ : ∃ q, q = partB (Cp p) 0 (Cp p).length := ⟨_, rfl⟩
    have hql : q = p := by rw [hq, partB_all, hC]
    have hn : p.length < 1048576 := by rw [hpl]; omega
    have e1 : eqB (S q).f (S p).f 0 32 = true := by rw [hql]; exact eqB_self _ _ _
    have e2 : Eq q p = true := by rw [hql]; exact hE _
    refine ⟨saysY [(9, false)], true, [Eq q p = true, AllU8 (Cp p), ReadB W g l, AllU8 l, eqB (S q).f (S p).f 0 32 = true, TabsAre, p.length < 1048576, ReadB W g l, AllU8 l, RoundsIn W.cell?, AllU8 (Cp p), p.length < 1048576, ReadB W g l, AllU8 l, decide ((l.length : Int) > 5000) = false, true = true, RoundsIn W.cell?], ?_,
      ⟨e2, allU8 _, readB hg, allU8 l, e1, tabsAre, hn, readB hg, allU8 l, hr, allU8 _, hn, readB hg, allU8 l, decide_eq_false (by omega), rfl, hr, trivial⟩, rfl⟩
    subst hq
    subst hp
    kernel_rfl
  · exact ⟨saysY [], true, [decide ((l.length : Int) > 5000) = true, true = true, RoundsIn W.cell?], by kernel_rfl, ⟨decide_eq_true (by omega), rfl, hr, trivial⟩, rfl⟩
theorem shaSums_ok : Computes A Tryd.prog 3 (fun _ : GA (Bs × Unit) => true) :=
  shaSums_of sumL (fun l => l) (fun a b => a == b) (.cons known_ok.row (.cons sum_ok.row (.cons refSum_ok.row (.cons new_ok.row (.cons copy_ok.row (.cons sameBytes_ok.row (.nil _))))))) (fun _ => rfl) (fun _ => beq_self_eq_true _)
end Go.Proofs.YtaloefkkllebeaaDoor

/- SHA-256: pairs, by the reference and by the sum of both behind one another. -/
namespace Go.Sh
def cellsG (f : Nat → UInt8) : Nat → A := fun q => (((List.range 32).map fun i => (At.u8 (f i) : A))[q]?).getD (At.u8 (f 0))
def bothG (f g : Nat → UInt8) : Nat → A := catF (fun q => cellsG f (0 + q)) 32 (cellsG g) 0
def bothL (f g : Nat → UInt8) : List UInt8 := (List.range 64).map fun j => u8of (bothG f g (0 + j))
theorem bothL_eq (f g : Nat → UInt8) : bothL f g = (List.range 32).map f ++ (List.range 32).map g := rfl
theorem cellsG_u8 (f : Nat → UInt8) (q : Nat) : isU8 (cellsG f q) = true := by
  unfold cellsG
  rw [List.getElem?_map]
  cases (List.range 32)[q]? <;> rfl
theorem bothG_u8 (f g : Nat → UInt8) (n : Nat) : ∀ j, j < n → isU8 (bothG f g (0 + j)) = true := by
  intro j _
  unfold bothG catF
  split
  · exact cellsG_u8 f _
  · exact cellsG_u8 g _
def bothH (f g : Nat → UInt8) : Nat → A := catF (cellsG f) 32 (cellsG g) 0
def bothM (f g : Nat → UInt8) : List UInt8 := (List.range 64).map fun j => u8of (bothH f g (0 + j))
theorem bothM_eq (f g : Nat → UInt8) : bothM f g = bothL f g := rfl
theorem bothH_u8 (f g : Nat → UInt8) (n : Nat) : ∀ j, j < n → isU8 (bothH f g (0 + j)) = true := by
  intro j _
  unfold bothH catF
  split
  · exact cellsG_u8 f _
  · exact cellsG_u8 g _
end Go.Sh
namespace Go.Proofs.YtaloefkkllebeaaDoor
open Go Go.Sh
noncomputable def tblMp (S : List UInt8 → R8 32) : List (Row A) := [rowOf A 28 (fun x : Ptr Mk × Bt × Unit => S x.2.1.l)]
theorem makerPair_of (S : List UInt8 → R8 32) (ht : TblOK Tryd.prog (tblMp S)) :
    Computes A Tryd.prog 34 (fun x : Ptr Mk × R8 32 × R8 32 × Unit => (⟨(S (bothL x.2.1.f x.2.2.1.f)).f⟩ : R8 32)) := by
  refine computes_of_run ht Tryd.func34 (by kernel_rfl) (by kernel_rfl) 8 ?_
  rintro ⟨a, _⟩ ⟨⟨m⟩, ⟨f⟩, ⟨g⟩, ⟨⟩⟩ W ⟨ha, _⟩
  have hT : HasTab W a := by
    intro i n hin b hb j hj
    obtain rfl := Option.some.inj hb
    exact ha (i + j) (show i + j < 72 by omega)
  refine ⟨fun _ _ => .keep, ⟨(S (bothL f g)).f⟩, [ReadT W.cell? a 0 72, TabsAre, (bothL f g).length < 1048576, ∀ j, j < 64 → isU8 (bothG f g (0 + j)) = true, 1 = 1 ∧ (32 : Nat) = 32 ∧ Sh.Bears 64 1, Sh.Bears 32 1], by kernel_rfl, ⟨hT _ _ (by omega), tabsAre, by simp [bothL], bothG_u8 f g 64, ⟨rfl, rfl, bears (by omega)⟩, bears (by omega), trivial⟩, rfl⟩
noncomputable def tblSp (S : List UInt8 → R8 32) (Pr Qr : R8 32 → R8 32 → R8 32) : List (Row A) :=
  [rowOf A 24 (fun _ : GA Unit => true), rowOf A 26 (fun x : GA (Bs × Unit) => S x.x.1.l), rowOf A 33 (fun x : GA (R8 32 × R8 32 × Unit) => Pr x.x.1 x.x.2.1),
    rowOf A 27 (fun _ : Unit => (⟨.mk⟩ : Pz Mk)), rowOf A 34 (fun x : Ptr Mk × R8 32 × R8 32 × Unit => Qr x.2.1 x.2.2.1)]
theorem shaPairs_of (S : List UInt8 → R8 32) (Pr Qr : R8 32 → R8 32 → R8 32) (ht : TblOK Tryd.prog (tblSp S Pr Qr)) (h1 : ∀ f g, (Pr ⟨f⟩ ⟨g⟩).f = (S (bothM f g)).f) (h2 : ∀ f g, (Pr ⟨f⟩ ⟨g⟩).f = (Qr ⟨f⟩ ⟨g⟩).f) :
    Computes A Tryd.prog 5 (fun _ : GA (R8 32 × R8 32 × Unit) => true) := by
  refine computes_of_run ht Tryd.func5 (by kernel_rfl) (by kernel_rfl) 8 ?_
  rintro ⟨_⟩ ⟨⟨⟨f⟩, ⟨g⟩, ⟨⟩⟩⟩ W ⟨hr, _⟩
  have e1 : eqB (Pr ⟨f⟩ ⟨g⟩).f (S (bothM f g)).f 0 32 = true := by rw [h1]; exact eqB_self _ _ _
  have e2 : eqB (Pr ⟨f⟩ ⟨g⟩).f (Qr ⟨f⟩ ⟨g⟩).f 0 32 = true := by rw [h2]; exact eqB_self _ _ _
  exact ⟨saysY [], true, [eqB (Pr ⟨f⟩ ⟨g⟩).f (Qr ⟨f⟩ ⟨g⟩).f 0 32 = true, TabsAre, RoundsIn W.cell?, eqB (Pr ⟨f⟩ ⟨g⟩).f (S (bothM f g)).f 0 32 = true, RoundsIn W.cell?, ∀ j, j < 64 → isU8 (bothH f g (0 + j)) = true, 0 < 32 ∧ Sh.Bears 64 1, RoundsIn W.cell?, true = true, RoundsIn W.cell?], by kernel_rfl,
    ⟨e2, tabsAre, hr, e1, hr, bothH_u8 f g 64, ⟨by decide, bears (by omega)⟩, hr, rfl, hr, trivial⟩, rfl⟩
end Go.Proofs.YtaloefkkllebeaaDoor

/- SHA-256: a pair's sum is that of both behind one another; the law of pairs. -/
namespace Go.Sh
theorem fits_bytes : ∀ (n : Nat) {cs : List Value}, Fits (List.replicate n (.int .u8)) cs → ∃ l : List UInt8, l.length = n ∧ cs = l.map fun x => Value.int .u8 x.toNat
  | 0, [], _ => ⟨[], rfl, rfl⟩
  | 0, _ :: _, h => h.elim
  | n + 1, [], h => h.elim
  | n + 1, v :: vs, ⟨h1, h2⟩ => by
    obtain ⟨z, rfl, hw⟩ := h1
    obtain ⟨l, hl, rfl⟩ := fits_bytes n h2
    have hw' : (0 : Int) ≤ z ∧ z ≤ 255 := by simpa [Lit.wf, IntKind.min, IntKind.max, IntKind.signed, IntKind.bits] using hw
    obtain ⟨m, rfl⟩ := Int.eq_ofNat_of_zero_le hw'.1
    refine ⟨UInt8.ofNat m :: l, by simp [hl], ?_⟩
    simp only [List.map_cons]
    rw [UInt8.toNat_ofNat_of_lt' (show m < 256 by omega)]
theorem r8_vals' {n : Nat} (l : List UInt8) (h : l.length = n) : ((List.range n).map fun i => Value.int .u8 ((pickN 0 l i).toNat : Int)) = l.map fun x => Value.int .u8 x.toNat := by
  subst h
  exact pickN_range 0 (fun x : UInt8 => Value.int .u8 x.toNat) l
instance (n : Nat) : Opens A (R8 n) where
  kds := List.replicate n (.int .u8)
  opens cs h := by
    obtain ⟨l, hl, rfl⟩ := fits_bytes n h
    exact ⟨⟨pickN 0 l⟩, (r8_vals' l hl).symm⟩
end Go.Sh
namespace Go.Proofs.YtaloefkkllebeaaDoor
open Go Go.Sh
theorem blk_both (f g : Nat → UInt8) : blkF (bothL f g) 0 = both f g := by kernel_rfl
theorem last_both (f g : Nat → UInt8) : lastA (bothL f g) 64 0 64 = end64 := by kernel_rfl
theorem sumF_both (Fst : Nat → UInt32) (C : (Nat → UInt32) → (Nat → UInt8) → (Nat → UInt32)) (O : (Nat → UInt32) → (Nat → UInt8)) (f g : Nat → UInt8) :
    sumF Fst C O (bothL f g) = O (C (C Fst (both f g)) end64) := by
  have hl : (bothL f g).length = 64 := by simp [bothL]
  have h : sumF Fst C O (bothL f g) = O (C (C Fst (blkF (bothL f g) 0)) (lastA (bothL f g) 64 0 64)) := by
    unfold sumF
    rw [hl]
    rfl
  rw [h, blk_both, last_both]
theorem sum_both (f g : Nat → UInt8) : sumL (bothL f g) = pairR8 ⟨f⟩ ⟨g⟩ := by
  unfold sumL pairR8
  rw [sumF_both]
theorem makerPair_ok : Computes A Tryd.prog 34 (fun x : Ptr Mk × R8 32 × R8 32 × Unit => pairR8 x.2.1 x.2.2.1) := by
  have h := makerPair_of sumL (.cons refSum_ok.row (.nil _))
  have e : (fun x : Ptr Mk × R8 32 × R8 32 × Unit => (⟨(sumL (bothL x.2.1.f x.2.2.1.f)).f⟩ : R8 32)) = fun x => pairR8 x.2.1 x.2.2.1 := by
    funext x
    rw [sum_both]
  rw [e] at h
  exact h
theorem shaPairs_ok : Computes A Tryd.prog 5 (fun _ : GA (R8 32 × R8 32 × Unit) => true) :=
  shaPairs_of sumL (fun a b => pairR8 a b) (fun a b => pairR8 a b) (.cons known_ok.row (.cons sum_ok.row (.cons pair_ok.row (.cons new_ok.row (.cons makerPair_ok.row (.nil _)))))) (fun f g => by rw [bothM_eq, sum_both]) (fun _ _ => rfl)
end Go.Proofs.YtaloefkkllebeaaDoor

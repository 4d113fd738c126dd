/- SHA-256: the examples. -/
import Derived.Test.YtaloefkkllebeaaDoorSc1
set_option linter.unusedVariables false
set_option linter.unusedSimpArgs false
set_option linter.unusedSectionVars false
namespace Go.Sh
section
variable {A : Type} [Atom A]
/-- A row of a function that leaves the caller's block as it is. -/
def readRow {Δ Γ R : Type} [Rep A Δ] [Args A Γ] [Res A R] (g : FuncId) (ty : TypeId) (os : List Nat) (f : Δ → Γ → R) : Row A where
  g := g
  e := fun old args m =>
    match args with
    | .val false [.p i o] :: _ =>
      match ptrsOf i os args, nth m i with
      | some rest, some (some blk) =>
        if blk.ro = false ∧ blk.ty = ty then
          match Rep.parse (T := Δ) blk.cells, Args.parse (Γ := Γ) old (setN m i none) rest with
          | some d, some (x, vc) => some (Res.tv (f d x), none, vc)
          | _, _ => none
        else none
      | _, _ => none
    | _ => none
theorem Turns.read {P : Program} {Δ Γ R : Type} [Rep A Δ] [Args A Γ] [Res A R] {g : FuncId} {ty : TypeId} {os : List Nat} {f : Δ → Γ → R} (h : Turns A P g ty os (fun d x => (d, f d x))) : RowOK P (readRow (A := A) g ty os f) := by
  intro c args m res mm vc _ he hvc X W0 W β vs _ hm hvs
  simp only [readRow] at he
  split at he
  · rename_i i o tl
    split at he
    · rename_i rest blk hrest hi
      split at he
      · rename_i hrt
        obtain ⟨hro, hty⟩ := hrt
        split at he
        · rename_i d x vc' hd hx
          simp at he
          obtain ⟨rfl, rfl, rfl⟩ := he
          have hvs' := hvs
          obtain ⟨v0, r0, k1, k2, rfl⟩ := hvs'
          obtain ⟨b, hb, _⟩ := LIs.single (k1 : LIs β _ [v0])
          obtain ⟨vs', hv1, hv2⟩ := ptrsOf_is hb hrest hvs
          obtain ⟨b', us, fz, g1, g2, g3, g4⟩ := hm.mem' hi hb
          obtain rfl : b' = b := Option.some.inj (g1.symm.trans hb)
          obtain ⟨rfl, gx⟩ := g4 hro
          have hus := Rep.ok (A := A) hd g2
          rw [hus, hty] at g3
          obtain ⟨gh, hg, hvals⟩ := Args.ok hx hvc (hm.gone hi hb hro) hv2
          rw [hv1, hvals]
          refine (h gh d x W b' g3 hg).mono ?_
          rintro v W' ⟨rfl, hW', hext, hnc⟩
          refine ⟨fun _ _ => False, Fresh.none W W', Res.is _ _, hext.os, hext.tape, hext.output, hext.size, fun k hk _ => ?_⟩
          by_cases e : k = b'
          · rw [e, hW', g3]
          · exact hext.block k hk e
        · cases he
      · cases he
    · cases he
  · cases he
end
def abcL : List UInt8 := UInt8.ofNat 97 :: UInt8.ofNat 98 :: UInt8.ofNat 99 :: List.replicate 61 (UInt8.ofNat 0)
def sameB : List UInt8 → List UInt8 → Bool
  | [], [] => true
  | x :: l, y :: r => (match Nat.beq x.toNat y.toNat with | true => sameB l r | false => false)
  | _, _ => false
theorem sameB_eq : ∀ {l r : List UInt8}, sameB l r = true → l = r
  | [], [], _ => rfl
  | x :: l, y :: r, h => by
    unfold sameB at h
    split at h
    · rename_i hb
      rw [UInt8.toNat_inj.1 (Nat.eq_of_beq_eq_true hb), sameB_eq h]
    · cases h
  | [], _ :: _, h => by cases h
  | _ :: _, [], h => by cases h
/-- A hash that has been given three bytes. -/
inductive Habc where
  | mk
def habcParse (l : List (SV A)) : Option Habc :=
  match l with
  | .v (.bool true) :: l1 =>
    match splitC l1 8 with
    | some (a, r1) =>
      match splitC r1 64 with
      | some (b, [.v (.int .u64 (.ofNat k))]) =>
        match words32 (flat a), bytesL (flat b) with
        | some w, some q => (match sameW w firstL, sameB q abcL, Nat.beq k 3 with | true, true, true => some .mk | _, _, _ => none)
        | _, _ => none
      | _ => none
    | none => none
  | _ => none
theorem cells_first : Atom.cells (At.w32 8 firstF : A) = firstL.map fun x => Value.int .u32 x.toNat := r32_vals firstL rfl
theorem cells_abc : Atom.cells (At.w8 64 (pickN 0 abcL) : A) = abcL.map fun x => Value.int .u8 x.toNat := r8_vals abcL rfl
instance : Rep A Habc where
  agg := true
  shw _ := [.v (.bool true), .a (.w32 8 firstF), .a (.w8 64 (pickN 0 abcL)), .v (.int .u64 3)]
  vals _ := Value.bool true :: (Atom.cells (At.w32 8 firstF : A) ++ (Atom.cells (At.w8 64 (pickN 0 abcL) : A) ++ [Value.int .u64 3]))
  parse := habcParse
  is β _ := ⟨[_], _, ⟨rfl, rfl⟩, ⟨_, _, rfl, ⟨_, _, rfl, ⟨[_], [], ⟨rfl, rfl⟩, rfl, rfl⟩, rfl⟩, rfl⟩, rfl⟩
  only := by
    rintro β x vs ⟨u1, y1, ⟨rfl, _⟩, ⟨u2, y2, h2, ⟨u3, y3, h3, ⟨u4, y4, ⟨rfl, _⟩, h4, rfl⟩, rfl⟩, rfl⟩, rfl⟩
    obtain rfl : y4 = [] := h4
    have e2 : u2 = _ := h2
    have e3 : u3 = _ := h3
    rw [e2, e3]
    rfl
  ok := by
    intro β l x vs h e
    unfold habcParse at h
    split at h
    · rename_i l1
      obtain ⟨u1, y1, ⟨rfl, _⟩, e1, rfl⟩ := e
      split at h
      · rename_i a r1 hs1
        obtain ⟨g1, g2, _⟩ := splitC_is e1 hs1
        split at h
        · rename_i b k hs2
          obtain ⟨g3, g4, _⟩ := splitC_is g2 hs2
          split at h
          · rename_i w q hw hq
            split at h
            · rename_i b1 b2 b3
              have f1 := words32_is (flat_is g1) hw
              have f2 := bytesL_is (flat_is g3) hq
              obtain ⟨u4, y4, ⟨e4, _⟩, h4, e5⟩ := g4
              obtain rfl : y4 = [] := h4
              rw [sameW_eq b1] at f1
              rw [sameB_eq b2] at f2
              rw [e4, Nat.eq_of_beq_eq_true b3, List.append_nil] at e5
              rw [cells_first, cells_abc, ← f1, ← f2]
              show Value.bool true :: y1 = _
              have t1 := List.take_append_drop 8 y1
              have t2 := List.take_append_drop 64 (y1.drop 8)
              rw [e5] at t2
              have t3 : List.take 64 (List.drop 8 y1) ++ [Value.int IntKind.u64 3] = List.drop 8 y1 := t2
              rw [t3, t1]
            · cases h
          · cases h
        · cases h
      · cases h
    · cases h
  single h := by cases h
end Go.Sh
namespace Go.Proofs.YtaloefkkllebeaaDoor
open Go Go.Sh
def abc : List UInt8 := [UInt8.ofNat 97, UInt8.ofNat 98, UInt8.ofNat 99]
noncomputable def itE : List (IRow A) := [iter Tryd.prog [] [] (fun _ _ => .keep) 12 120 Tryd.f120]
theorem itE_ok : ITblOK (A := A) Tryd.prog itE := .cons (iter_ok (TblOK.nil _) (ITblOK.nil _) _ 12 Tryd.func120 (by kernel_rfl) (by kernel_rfl)) (ITblOK.nil _)
theorem hsum_abc (C : (Nat → UInt32) → (Nat → UInt8) → (Nat → UInt32)) (O : (Nat → UInt32) → (Nat → UInt8)) (ht : TblOK Tryd.prog (tblPair firstF C O)) : Turns A Tryd.prog 37 42 [0] (fun (d : Habc) (_ : GA Unit) => (d, (⟨sumF firstF C O abc⟩ : R8 32))) := by
  refine turns_of_runT Tryd.func37 (by kernel_rfl) (by kernel_rfl) 10 ?_
  rintro _ ⟨⟩ ⟨⟨⟩⟩ W ⟨hr, _⟩
  exact ⟨_, itE, ht, itE_ok, fun _ _ => .keep, noLoop, ⟨sumF firstF C O abc⟩, .mk, [RoundsIn W.cell?], by kernel_rfl, ⟨hr, trivial⟩, rfl, fun body _ => loopsFor_none⟩
theorem tblPair_ok : TblOK Tryd.prog (tblPair firstF compF outF) := .cons addR_ok (.cons first_ok.row (.cons bytesS_ok.row (.cons endingR_ok (.nil _))))
noncomputable def writeR : Row A := rowIn Tryd.prog [rowOf A 85 (fun _ : Unit => (⟨firstF⟩ : R32 8))] [] (fun _ _ => .keep) 8 35 Tryd.f35
theorem writeR_ok : RowOK Tryd.prog writeR := rowIn_ok (.cons first_ok.row (.nil _)) (ITblOK.nil _) _ 8 Tryd.func35 (by kernel_rfl) (by kernel_rfl)
noncomputable def tblKn (S : List UInt8 → R8 32) (Pr : R8 32 → R8 32 → R8 32) : List (Row A) :=
  [rowOf A 26 (fun x : GA (Bs × Unit) => S x.x.1.l), rowOf A 33 (fun x : GA (R8 32 × R8 32 × Unit) => Pr x.x.1 x.x.2.1), blocksR, writeR, readRow 37 42 [0] (fun (d : Habc) (_ : GA Unit) => S abc)]
noncomputable def itKn : List (IRow A) := [iter Tryd.prog [endingR] itE (fun _ _ => .keep) 8 117 Tryd.f117]
end Go.Proofs.YtaloefkkllebeaaDoor

/- Domains: slices.Concat and joined run where they stand; pairs, forks' roots, domains, messages. -/
import Derived.Test.YtaloefkkllebeaaDoorTq
import Derived.Test.YtaloefkkllebeaaDoorTr
import Derived.Test.YtaloefkkllebeaaDoorSo1
import Derived.Test.YtaloefkkllebeaaDoorTp
set_option linter.unusedVariables false
set_option linter.unusedSimpArgs false
set_option linter.unusedSectionVars false
set_option maxRecDepth 100000
namespace Go.Proofs.YtaloefkkllebeaaDoor
open Go Go.Sh
abbrev Cf := R8 32 × R8 4 × UInt64 × UInt64 × Int
noncomputable def concatR : Row A := (rowIn Tryd.prog [roomG] [] (fun _ _ => .keep) 6 107 Tryd.f107).kept
theorem concatR_ok : RowOK Tryd.prog concatR := Row.kept_ok (rowIn_ok (.cons roomG_ok (.nil _)) (ITblOK.nil _) _ 6 Tryd.func107 (by kernel_rfl) (by kernel_rfl))
noncomputable def joinedR : Row A := (rowIn Tryd.prog [concatR] [] (fun _ _ => .keep) 6 105 Tryd.f105).kept
theorem joinedR_ok : RowOK Tryd.prog joinedR := Row.kept_ok (rowIn_ok (.cons concatR_ok (.nil _)) (ITblOK.nil _) _ 6 Tryd.func105 (by kernel_rfl) (by kernel_rfl))
noncomputable def tblDp (RV : RVT) : List (Row A) := [rowOf A 53 (fun x : GA (Rt 32 × Int × Unit) => RV x.x.1.l x.x.2.1)]
theorem dpair_of {RV : RVT} (ht : TblOK Tryd.prog (tblDp RV)) : Computes A Tryd.prog 104 (fun x : GA (R8 32 × R8 32 × Unit) => (RV (twS x.x.1.f x.x.2.1.f) 2).a) := by
  refine computes_of_run ht Tryd.func104 (by kernel_rfl) (by kernel_rfl) 6 ?_
  rintro _ ⟨⟨⟨a⟩, ⟨b⟩, ⟨⟩⟩⟩ W ⟨hr, _⟩
  exact ⟨saysY [], (RV (twS a b) 2).a, [RoundsIn W.cell?, (twS a b).length < 1048576], by kernel_rfl, ⟨hr, by rw [twS_len]; decide, trivial⟩, rfl⟩
theorem root_two (Pr : R8 32 → R8 32 → R8 32) {l : List (R8 32)} {x y : R8 32} (h : nm l = [x, y]) : (rootV Pr l 2).a = Pr x y := by
  have hl : l.length = 2 := by rw [← nm_len, h]; rfl
  rw [rootV_ok Pr l (by decide) (by rw [hl]; decide), show depQ 2 = 1 from dep2]
  show treeN Pr l 1 = _
  unfold treeN
  rw [h]
  rfl
theorem dpair_ok : Computes A Tryd.prog 104 (fun x : GA (R8 32 × R8 32 × Unit) => pairR8 x.x.1 x.x.2.1) := by
  have h := dpair_of (RV := rootV pairR8) (.cons root_ok.row (.nil _))
  have e : (fun x : GA (R8 32 × R8 32 × Unit) => (rootV pairR8 (twS x.x.1.f x.x.2.1.f) 2).a) = fun x => pairR8 x.x.1 x.x.2.1 := by
    funext x
    rw [root_two pairR8 (nm_twS _ _), pair_ext]
  rw [e] at h
  exact h
noncomputable def tblFk (Pm : R8 32 → R8 32 → R8 32) : List (Row A) := [joinedR, rowOf A 104 (fun x : GA (R8 32 × R8 32 × Unit) => Pm x.x.1 x.x.2.1)]
def fkM (v g : Nat → UInt8) : Mem A := [some ⟨[.a (.w8 4 v)], 92, false⟩, some ⟨[.a (.w8 32 g)], 46, false⟩, some ⟨zer8 32, 46, false⟩, some ⟨[.s 0 0 4 4], 22, false⟩]
def znM : Mem A := [some ⟨zer8 32, 25, false⟩, some ⟨zer8 32, 25, false⟩]
def lit4 (v : Nat → UInt8) : List A := (List.range 4).map fun i => .u8 (v i)
def jnF (v : Nat → UInt8) : Nat → A := catF (fun _ => Atom.dummy) (timesN 0 (0 + 1)) (fun j => ((lit4 v)[j]?).getD (.u8 (v 0))) 0
/-- Four bytes, with noughts behind them. -/
def jnV (v : Nat → UInt8) : Nat → UInt8 := fun j =>
  match Nat.blt j (min (0 + (4 - 0)) (32 - 0)) with
  | true => (match jnF v (0 + j) with | .u8 x => x | _ => 0)
  | false => pickN 0 (List.replicate 32 (UInt8.ofNat 0)) j
theorem jnF_ok (v : Nat → UInt8) : ∀ j, j < min (0 + (4 - 0)) (32 - 0) → ∃ x, (fun q => jnF v (0 + q)) j = .u8 x := by
  intro j hj
  have hj : j < 4 := by omega
  match j, hj with
  | 0, _ => exact ⟨_, rfl⟩
  | 1, _ => exact ⟨_, rfl⟩
  | 2, _ => exact ⟨_, rfl⟩
  | 3, _ => exact ⟨_, rfl⟩
  | k + 4, h => exact absurd h (by omega)
theorem fork_of {Pm : R8 32 → R8 32 → R8 32} (ht : TblOK Tryd.prog [rowOf A 104 (fun x : GA (R8 32 × R8 32 × Unit) => Pm x.x.1 x.x.2.1)]) : Computes A Tryd.prog 65 (fun x : GA (R8 4 × R8 32 × Unit) => Pm ⟨jnV x.x.1.f⟩ x.x.2.1) := by
  refine computes_of_run (tbl := tblFk Pm) (.cons joinedR_ok ht) Tryd.func65 (by kernel_rfl) (by kernel_rfl) 6 ?_
  rintro _ ⟨⟨⟨v⟩, ⟨g⟩, ⟨⟩⟩⟩ W ⟨hr, _⟩
  exact ⟨saysY [], Pm ⟨jnV v⟩ ⟨g⟩, [RoundsIn W.cell?, fkM v g = fkM v g, ∀ j, j < min (0 + (4 - 0)) (32 - 0) → ∃ x, (fun q => jnF v (0 + q)) j = .u8 x, fkM v g ++ znM = fkM v g ++ znM, 0 = 0 ∧ timesN 0 (0 + 1) = 0 ∧ Sh.Bears (0 + (4 - 0)) 1, (0 : Int) < 4 ∧ (4 : Int) ≤ 4294967296], by kernel_rfl,
    ⟨hr, rfl, jnF_ok v, rfl, ⟨rfl, rfl, by unfold Sh.Bears maxLen; omega⟩, by decide, trivial⟩, rfl⟩
theorem fork_ok : Computes A Tryd.prog 65 (fun x : GA (R8 4 × R8 32 × Unit) => pairR8 ⟨jnV x.x.1.f⟩ x.x.2.1) := fork_of (Pm := pairR8) (.cons dpair_ok.row (.nil _))
noncomputable def joinedQ : Row A := rowIn Tryd.prog [concatR] [] (fun _ _ => .keep) 6 105 Tryd.f105
theorem joinedQ_ok : RowOK Tryd.prog joinedQ := rowIn_ok (.cons concatR_ok (.nil _)) (ITblOK.nil _) _ 6 Tryd.func105 (by kernel_rfl) (by kernel_rfl)
noncomputable def tblDo (Fk : R8 4 → R8 32 → R8 32) : List (Row A) := [joinedQ, rowOf A 65 (fun x : GA (R8 4 × R8 32 × Unit) => Fk x.x.1 x.x.2.1)]
noncomputable def tblSg' (Pm : R8 32 → R8 32 → R8 32) : List (Row A) := [rowOf A 104 (fun x : GA (R8 32 × R8 32 × Unit) => Pm x.x.1 x.x.2.1)]
theorem signing_of {Pm : R8 32 → R8 32 → R8 32} (ht : TblOK Tryd.prog (tblSg' Pm)) : Computes A Tryd.prog 69 (fun x : GA (R8 32 × R8 32 × Unit) => Pm x.x.1 x.x.2.1) := by
  refine computes_of_run ht Tryd.func69 (by kernel_rfl) (by kernel_rfl) 6 ?_
  rintro _ ⟨⟨⟨a⟩, ⟨b⟩, ⟨⟩⟩⟩ W ⟨hr, _⟩
  exact ⟨saysY [], Pm ⟨a⟩ ⟨b⟩, [RoundsIn W.cell?], by kernel_rfl, ⟨hr, trivial⟩, rfl⟩
noncomputable def tblMs (Hr : Hd → R8 32) (Do : Cf → R8 32) (Sg : R8 32 → R8 32 → R8 32) : List (Row A) :=
  [rowOf A 43 (fun x : GA (Hd × Unit) => Hr x.x.1), rowOf A 67 (fun x : GA (Cf × Unit) => Do x.x.1), rowOf A 69 (fun x : GA (R8 32 × R8 32 × Unit) => Sg x.x.1 x.x.2.1)]
def b32 (r : R8 32) : List UInt8 := (List.range 32).map r.f
theorem message_of {Hr : Hd → R8 32} {Do : Cf → R8 32} {Sg : R8 32 → R8 32 → R8 32} (ht : TblOK Tryd.prog (tblMs Hr Do Sg)) : Computes A Tryd.prog 71 (fun x : GA (Cf × Hd × Unit) => (⟨b32 (Sg (Hr x.x.2.1) (Do x.x.1))⟩ : Bz)) := by
  refine computes_of_run ht Tryd.func71 (by kernel_rfl) (by kernel_rfl) 6 ?_
  rintro _ ⟨⟨⟨⟨g⟩, ⟨v⟩, c1, c2, c3⟩, ⟨s, p, ⟨x⟩, ⟨y⟩, ⟨z⟩⟩, ⟨⟩⟩⟩ W ⟨hr, _⟩
  exact ⟨saysY [], ⟨b32 (Sg (Hr (s, p, ⟨x⟩, ⟨y⟩, ⟨z⟩)) (Do (⟨g⟩, ⟨v⟩, c1, c2, c3)))⟩, [RoundsIn W.cell?, RoundsIn W.cell?, RoundsIn W.cell?], by kernel_rfl, ⟨hr, hr, hr, trivial⟩, rfl⟩
def doM (g v r : Nat → UInt8) (c1 c2 : UInt64) (c3 : Int) : Mem A :=
  [some ⟨[.a (.w8 32 g), .a (.w8 4 v), .a (.u64 c1), .a (.u64 c2), .n .i64 c3], 94, false⟩, some ⟨zer8 32, 25, false⟩, some ⟨[.a (.w8 32 r)], 46, false⟩, some ⟨[.v (.int .u8 7), .v (.int .u8 0), .v (.int .u8 0), .v (.int .u8 0)], 5, false⟩, some ⟨[.s 3 0 4 4, .s 2 0 28 32], 22, false⟩]
def kd4 : List A := [.u8 7, .u8 0, .u8 0, .u8 0]
def lit28 (r : Nat → UInt8) : List A := (List.range 28).map fun i => .u8 (r i)
def jdF (r : Nat → UInt8) : Nat → A := catF (catF (fun _ => Atom.dummy) (timesN 0 (0 + 1)) (fun j => (kd4[j]?).getD (.u8 7)) 0) (timesN (0 + 4) (0 + 1)) (fun j => ((lit28 r)[j]?).getD (.u8 (r 0))) 0
/-- A domain: its kind, a fork's root. -/
def jdV (r : Nat → UInt8) : Nat → UInt8 := fun j =>
  match Nat.blt j (min (0 + 4 + (28 - 0)) (32 - 0)) with
  | true => (match jdF r (0 + j) with | .u8 x => x | _ => 0)
  | false => pickN 0 (List.replicate 32 (UInt8.ofNat 0)) j
theorem jdF_u8 (r : Nat → UInt8) (j : Nat) : ∃ x, jdF r j = .u8 x := by
  have g4 : ∀ j : Nat, ∃ x, ((kd4[j]?).getD (.u8 7) : A) = .u8 x := fun j => by
    cases h : kd4[j]? with
    | none => exact ⟨_, rfl⟩
    | some y =>
      have hx := List.mem_of_getElem? h
      unfold kd4 at hx
      simp at hx
      rcases hx with rfl | rfl <;> exact ⟨_, rfl⟩
  have g28 : ∀ j : Nat, ∃ x, (((lit28 r)[j]?).getD (.u8 (r 0)) : A) = .u8 x := fun j => by
    cases h : (lit28 r)[j]? with
    | none => exact ⟨_, rfl⟩
    | some y =>
      have hx := List.mem_of_getElem? h
      unfold lit28 at hx
      obtain ⟨i, _, rfl⟩ := List.mem_map.1 hx
      exact ⟨_, rfl⟩
  unfold jdF
  simp only [catF]
  split
  · have hb : j.blt (timesN 0 (0 + 1)) = false := by
      rw [Bool.eq_false_iff, ne_eq, Nat.blt_eq, timesN_eq]
      omega
    rw [hb]
    exact g4 _
  · exact g28 _
theorem domain_of {Fk : R8 4 → R8 32 → R8 32} (ht : TblOK Tryd.prog [rowOf A 65 (fun x : GA (R8 4 × R8 32 × Unit) => Fk x.x.1 x.x.2.1)]) : Computes A Tryd.prog 67 (fun x : GA (Cf × Unit) => (⟨jdV (Fk x.x.1.2.1 x.x.1.1).f⟩ : R8 32)) := by
  refine computes_of_run (tbl := tblDo Fk) (.cons joinedQ_ok ht) Tryd.func67 (by kernel_rfl) (by kernel_rfl) 6 ?_
  rintro _ ⟨⟨⟨⟨g⟩, ⟨v⟩, c1, c2, c3⟩, ⟨⟩⟩⟩ W ⟨hr, _⟩
  exact ⟨saysY [], ⟨jdV (Fk ⟨v⟩ ⟨g⟩).f⟩, [∀ j, j < min (0 + 4 + (28 - 0)) (32 - 0) → ∃ x, (fun q => jdF (Fk ⟨v⟩ ⟨g⟩).f (0 + q)) j = .u8 x, doM g v (Fk ⟨v⟩ ⟨g⟩).f c1 c2 c3 ++ znM = doM g v (Fk ⟨v⟩ ⟨g⟩).f c1 c2 c3 ++ znM,
      0 + 1 = 0 + 1 ∧ timesN (0 + 4) (0 + 1) = 0 + timesN 4 (0 + 1) ∧ Sh.Bears (0 + 4 + (28 - 0)) 1, 0 = 0 ∧ timesN 0 (0 + 1) = 0 ∧ Sh.Bears (0 + 4) 1, (0 : Int) < 32 ∧ (32 : Int) ≤ 4294967296, RoundsIn W.cell?], by kernel_rfl,
    ⟨fun j _ => jdF_u8 _ _, rfl, ⟨rfl, rfl, by unfold Sh.Bears maxLen; omega⟩, ⟨rfl, rfl, by unfold Sh.Bears maxLen; omega⟩, by decide, hr, trivial⟩, rfl⟩
def domV (Pr : R8 32 → R8 32 → R8 32) (c : Cf) : R8 32 := ⟨jdV (Pr ⟨jnV c.2.1.f⟩ c.1).f⟩
def msgV (Pr : R8 32 → R8 32 → R8 32) (c : Cf) (h : Hd) : List UInt8 := b32 (Pr (headR Pr h) (domV Pr c))
theorem domain_ok : Computes A Tryd.prog 67 (fun x : GA (Cf × Unit) => domV pairR8 x.x.1) := domain_of (Fk := fun v g => pairR8 ⟨jnV v.f⟩ g) (.cons fork_ok.row (.nil _))
theorem signing_ok : Computes A Tryd.prog 69 (fun x : GA (R8 32 × R8 32 × Unit) => pairR8 x.x.1 x.x.2.1) := signing_of (.cons dpair_ok.row (.nil _))
theorem message_ok : Computes A Tryd.prog 71 (fun x : GA (Cf × Hd × Unit) => (⟨msgV pairR8 x.x.1 x.x.2.1⟩ : Bz)) := message_of (.cons header_ok.row (.cons domain_ok.row (.cons signing_ok.row (.nil _))))
/-! ### The reference's -/
noncomputable def tblTd (Tv : List (R8 32) → R8 32) : List (Row A) := [rowOf A 96 (fun x : Hs Mk × Rt 32 × Unit => Tv x.2.1.l)]
noncomputable def tblRd (Fk : R8 4 → R8 32 → R8 32) : List (Row A) := [rowOf A 66 (fun x : Hs Mk × R8 4 × R8 32 × Unit => Fk x.2.1 x.2.2.1)]
noncomputable def tblRm (Hr : Hd → R8 32) (Do : Cf → R8 32) (Sg : R8 32 → R8 32 → R8 32) : List (Row A) :=
  [rowOf A 47 (fun x : Hs Mk × Hd × Unit => Hr x.2.1), rowOf A 68 (fun x : Hs Mk × Cf × Unit => Do x.2.1), rowOf A 70 (fun x : Hs Mk × R8 32 × R8 32 × Unit => Sg x.2.1 x.2.2.1)]
end Go.Proofs.YtaloefkkllebeaaDoor

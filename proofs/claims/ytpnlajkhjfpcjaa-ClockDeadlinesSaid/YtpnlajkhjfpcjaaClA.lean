/- Clock: the functions of package clock and of its reference, as plain functions, each proved of the program by a run on shadows. -/
import Derived.Test.YtpnlajkhjfpcjaaShI
import Derived.Test.YtpnlajkhjfpcjaaRows
namespace Go.Proofs.Ytpnlajkhjfpcjaa
open Go Go.Sh

/-- The first 36 cells of a Config: whatever they hold. -/
abbrev Hd := { l : List Value // l.length = 36 ∧ l.all (·.oneCell') = true }

instance : Big Hd where
  cells b := b.1
  size _ := 36
  len b := b.2.1
  one b v hv := List.all_eq_true.1 b.2.2 v hv

abbrev A := At Hd

def lits : List (SV A) → Option (List Value)
  | [] => some []
  | .v x :: l =>
    match lits l with
    | some r => some (x :: r)
    | none => none
  | _ => none

theorem lits_is {β : Adr} : ∀ {l : List (SV A)} {us vs}, lits l = some us → LIs β l vs → vs = us
  | [], us, vs, h, e => by simp [lits] at h; subst h; exact e
  | .v x :: l, us, vs, h, ⟨u, w, h1, h2, e⟩ => by
    simp only [lits] at h
    split at h
    · rename_i r hr
      simp at h; subst h; subst e
      obtain ⟨rfl, _⟩ := h1
      rw [lits_is hr h2]; rfl
    · cases h
  | .n _ _ :: _, _, _, h, _ => by simp [lits] at h
  | .b _ :: _, _, _, h, _ => by simp [lits] at h
  | .p _ _ :: _, _, _, h, _ => by simp [lits] at h
  | .s _ _ _ _ :: _, _, _, h, _ => by simp [lits] at h
  | .f _ _ :: _, _, _, h, _ => by simp [lits] at h
  | .a _ :: _, _, _, h, _ => by simp [lits] at h

instance : Rep A Hd where
  agg := true
  shw x := [.a (.big x)]
  vals x := x.1
  parse l :=
    match l with
    | [.a (.big x)] => some x
    | l =>
      match lits l with
      | some vs => if h : vs.length = 36 ∧ vs.all (·.oneCell') = true then some ⟨vs, h⟩ else none
      | none => none
  is β x := ⟨x.1, [], rfl, rfl, by simp⟩
  only := by
    rintro β x vs ⟨u, y, h1, h2, rfl⟩
    obtain rfl : y = [] := h2
    have h3 : u = x.1 := h1
    simp [h3]
  ok := by
    intro β l x vs h e
    split at h
    · obtain ⟨u, y, h1, h2, rfl⟩ := e
      obtain rfl : y = [] := h2
      simp at h; subst h
      have h3 : u = _ := h1
      simp [h3]
      rfl
    · split at h
      · rename_i us hus
        split at h
        · simp at h; subst h
          exact lits_is hus e
        · cases h
      · cases h
  single h := by cases h

instance : Sized A Hd := ⟨36, fun x => x.2.1⟩

/-- A Config. -/
abbrev Conf := Hd × UInt64 × UInt64 × Int

def Conf.s (c : Conf) : Int := c.2.1.toNat
def Conf.e (c : Conf) : Int := c.2.2.1.toNat
def Conf.z (c : Conf) : Int := c.2.2.2
def land (z : Int) : Int := IntKind.i64.wrap (BitVec.ofInt IntKind.i64.bits z &&& BitVec.ofInt IntKind.i64.bits (IntKind.i64.wrap (z - 1))).toNat

def check (c : Conf) : Int :=
  bif c.s == 0 then 210 else bif decide (c.s > 65536) then 210 else bif c.e == 0 then 210 else bif decide (c.e > 65536) then 210 else
  bif decide (c.z < 1) then 210 else bif decide (c.z > 512) then 210 else bif land c.z != 0 then 210 else 0

theorem cond_true {α : Type} {b : Bool} {x y : α} (h : b = true) : (bif b then x else y) = x := by rw [h]; rfl
theorem cond_false {α : Type} {b : Bool} {x y : α} (h : b = false) : (bif b then x else y) = y := by rw [h]; rfl




theorem check_ok : Computes A Try.prog 9 (fun x : Conf × Unit => check x.1) := by
  refine computes_of_run (TblOK.nil _) Try.func9 (by kernel_rfl) (by kernel_rfl) 4 ?_
  rintro ⟨⟨h, s, e, z⟩, ⟨⟩⟩
  generalize h1 : ((s.toNat : Int) == 0) = b1
  generalize h2 : decide ((s.toNat : Int) > 65536) = b2
  generalize h3 : ((e.toNat : Int) == 0) = b3
  generalize h4 : decide ((e.toNat : Int) > 65536) = b4
  generalize h5 : decide (z < 1) = b5
  generalize h6 : decide (z > 512) = b6
  generalize h7 : (land z != 0) = b7
  have ec : check (h, s, e, z) = bif b1 then 210 else bif b2 then 210 else bif b3 then 210 else bif b4 then 210 else bif b5 then 210 else bif b6 then 210 else bif b7 then 210 else 0 := by
    rw [← h1, ← h2, ← h3, ← h4, ← h5, ← h6, ← h7]; rfl
  rw [ec]
  cases b1
  · cases b2
    · cases b3
      · cases b4
        · cases b5
          · cases b6
            · cases b7
              · exact ⟨only 0, 0, [(land z != 0) = false, decide (z > 512) = false, decide (z < 1) = false, decide ((e.toNat : Int) > 65536) = false, ((e.toNat : Int) == 0) = false, decide ((s.toNat : Int) > 65536) = false, ((s.toNat : Int) == 0) = false], by kernel_rfl, ⟨h7, h6, h5, h4, h3, h2, h1, trivial⟩, rfl⟩
              · exact ⟨only 38, 210, [(land z != 0) = true, decide (z > 512) = false, decide (z < 1) = false, decide ((e.toNat : Int) > 65536) = false, ((e.toNat : Int) == 0) = false, decide ((s.toNat : Int) > 65536) = false, ((s.toNat : Int) == 0) = false], by kernel_rfl, ⟨h7, h6, h5, h4, h3, h2, h1, trivial⟩, rfl⟩
            · exact ⟨only 29, 210, [decide (z > 512) = true, decide (z < 1) = false, decide ((e.toNat : Int) > 65536) = false, ((e.toNat : Int) == 0) = false, decide ((s.toNat : Int) > 65536) = false, ((s.toNat : Int) == 0) = false], by kernel_rfl, ⟨h6, h5, h4, h3, h2, h1, trivial⟩, rfl⟩
          · exact ⟨only 24, 210, [decide (z < 1) = true, decide ((e.toNat : Int) > 65536) = false, ((e.toNat : Int) == 0) = false, decide ((s.toNat : Int) > 65536) = false, ((s.toNat : Int) == 0) = false], by kernel_rfl, ⟨h5, h4, h3, h2, h1, trivial⟩, rfl⟩
        · exact ⟨only 19, 210, [decide ((e.toNat : Int) > 65536) = true, ((e.toNat : Int) == 0) = false, decide ((s.toNat : Int) > 65536) = false, ((s.toNat : Int) == 0) = false], by kernel_rfl, ⟨h4, h3, h2, h1, trivial⟩, rfl⟩
      · exact ⟨only 14, 210, [((e.toNat : Int) == 0) = true, decide ((s.toNat : Int) > 65536) = false, ((s.toNat : Int) == 0) = false], by kernel_rfl, ⟨h3, h2, h1, trivial⟩, rfl⟩
    · exact ⟨only 9, 210, [decide ((s.toNat : Int) > 65536) = true, ((s.toNat : Int) == 0) = false], by kernel_rfl, ⟨h2, h1, trivial⟩, rfl⟩
  · exact ⟨only 5, 210, [((s.toNat : Int) == 0) = true], by kernel_rfl, ⟨h1, trivial⟩, rfl⟩
end Go.Proofs.Ytpnlajkhjfpcjaa

/- From a contract to a statement: a law that always answers yes and turns no memory; arguments without addresses, opened. -/
import Derived.Test.YtbdbmcdcjejffaaEnK
import Derived.ChangeSlices
import Derived.ProofKit
import Derived.OpenShut
set_option linter.unusedVariables false
set_option linter.unusedSimpArgs false
set_option linter.unusedSectionVars false
namespace Go.Sh
open Go.ChangeShapes Go.ChangeAt Go.WideShapes Go.RowKit

section
variable {H : Type} {enc : TypeId × Value → H}

theorem trodAll_stays {P : Program} {W W' : World} {sp : Nat → Bool} (hl : laidOutB P = true) (hb : Below W.heap.size W W') :
    ∀ (ts : List TypeId) (vs : List Value) (ds : List (DataW H)) (ps : List MemPlace), (∀ t ∈ ts, P.readableRec t = true ∧ t < P.types.size) → (∀ x ∈ ps, x.block < W.heap.size) → (∀ x ∈ ps, sp x.block = true) →
      DataW.TrodAll enc P W 0 (fun _ => true) true ts vs ds ps → DataW.TrodAll enc P W' 0 sp true ts vs ds ps
  | [], [], [], _, _, _, _, h => h
  | t :: ts, v :: vs, d :: ds, _, hr, hlt, hsp, ⟨p, q, h1, h2, e⟩ => by
    subst e
    have hr1 := hr t (by simp)
    exact ⟨p, q, WideElems.Trod_stays hl hr1.1 hr1.2 h1 (fun x hx => hb.same (hlt x (by simp [hx]))) (fun x hx => hsp x (by simp [hx])),
      trodAll_stays hl hb ts vs ds q (fun t ht => hr t (by simp [ht])) (fun x hx => hlt x (by simp [hx])) (fun x hx => hsp x (by simp [hx])) h2, rfl⟩
  | [], _ :: _, _, _, _, _, _, h => h.elim
  | [], [], _ :: _, _, _, _, _, h => h.elim
  | _ :: _, [], _, _, _, _, _, h => h.elim
  | _ :: _, _ :: _, [], _, _, _, _, h => h.elim

/-- What a call that answers yes and turns nothing old leaves is what a law's statement says. -/
theorem post_of_below {P : Program} {f : Func} {s : ChangeSpec} {apart fresh handsOn again : Bool} {W W' : World} {args : Array Value} {ds gs : List (DataW H)} {before : List MemPlace} {tb : TypeId}
    (hl : laidOutB P = true) (hr : ∀ t ∈ f.params.toList, P.readableRec t = true ∧ t < P.types.size) (hv : s.vars = []) (hs : s.fn H ds = { results := [.lit (.bool true)], args := ds })
    (hrt : f.resultTypes = #[tb]) (htb : P.underlying tb = some .bool)
    (hW : DataW.Whole enc P f.params.toList s.vars apart W args.toList ds gs before) (hb : Below W.heap.size W W') :
    s.post enc P f apart fresh handsOn again W args (.bool true) W' := by
  obtain ⟨p, q, hA, hV, e, hz, hn⟩ := id hW
  subst e
  rw [hv] at hV
  obtain ⟨rfl, rfl⟩ := trodVars_none hV
  simp only [List.append_nil] at hW hz hn
  have hlt : ∀ x ∈ p, x.block < W.heap.size := fun x hx => by simpa using hW.lt x hx
  have hargs : ∀ sp : Nat → Bool, (∀ x ∈ p, sp x.block = true) → DataW.TrodAll enc P W' 0 sp true f.params.toList args.toList (s.fn H (ds ++ [])).args p := by
    intro sp hsp
    rw [List.append_nil, hs]
    exact trodAll_stays hl hb _ _ _ _ hr hlt hsp hA
  have hres : ∀ (b : Nat) (sp : Nat → Bool) (hd : Bool), DataW.TrodAll enc P W' b sp hd f.resultTypes.toList ((Value.bool true).resultList f.resultTypes.size) (s.fn H (ds ++ [])).results [] := by
    intro b sp hd
    rw [List.append_nil, hs, hrt]
    exact trodAll_mk1 (shut_bool htb true)
  have hvars : ∀ sp : Nat → Bool, DataW.TrodVars enc P W' sp s.vars (s.fn H (ds ++ [])).vars [] := by
    intro sp
    rw [List.append_nil, hs, hv]
    exact rfl
  refine ⟨ds, [], p, [], p, [], hW, hres _ _ _, hargs _ (fun x hx => by simpa using hlt x hx), hvars _, hb.frame _, fun _ => ?_⟩
  refine ⟨ok_one hrt rfl (okWide_bool_mk htb true), _, _, ([] ++ p) ++ [], ⟨[] ++ p, [], trodAll_append (hargs _ (fun _ _ => rfl)) (hres _ _ _), hvars _, rfl, ?_, ?_⟩, ?_⟩
  · intro b off hp
    simp only [List.nil_append, List.append_nil] at hp
    rw [hb.frozen (hlt _ hp)]
    exact hz b off hp
  · intro ha
    simpa using hn ha
  · intro x hx _
    simpa using hx

/-- A law's statement out of what its call does. -/
theorem law_returns {C : Checked} {os : Os} {f : FuncId} {fn : Func} {s : ChangeSpec} {apart fresh handsOn again : Bool} {tb : TypeId} (started : os.Started) (hfn : C.prog.funcs[f]? = some fn)
    (own : ownKnob C.prog.godebug = none) (noInit : C.prog.inits.idxOf? f = none) (hl : laidOutB C.prog = true)
    (hr : fn.params.toList.all (fun t => C.prog.readableRec t && decide (t < C.prog.types.size)) = true) (hv : s.vars = []) (hrt : fn.resultTypes = #[tb]) (htb : C.prog.underlying tb = some .bool)
    (hs : ∀ ds : List (DataW H), ds.length = fn.params.size → s.fn H ds = { results := [.lit (.bool true)], args := ds })
    (witness : ∃ (w : World) (tape : Tape) (i : Input), w.os = os ∧ (w.forCall tape i).Shaped C.prog ∧ i.vars = [] ∧ Input.okWide C.prog (w.forCall tape i) .any w.heap.size f i ∧
      s.pre6 enc C.prog fn [] apart (w.forCall tape i).memory i.args ∧ ({} : Assume).holds C.prog (lone (Frame.enter C.prog f i.args .normal) [] (w.forCall tape i)))
    (h : ∀ (W : World) (base : Nat) (args : Array Value) (ds : List (DataW H)) (ps : List MemPlace), (∀ (j : Nat) t v, fn.params.toList[j]? = some t → args.toList[j]? = some v → Value.okWide C.prog W .any base t v) →
      DataW.TrodAll enc C.prog W 0 (fun _ => true) true fn.params.toList args.toList ds ps → Calls C.prog f args W fun e W' => e = .returned (.bool true) ∧ Below W.heap.size W W') :
    ReturnsInHanded {} C os f .any (s.pre6 enc C.prog fn [] apart) (s.post enc C.prog fn apart fresh handsOn again) := by
  have trodLen : ∀ (ts : List TypeId) (vs : List Value) (ds : List (DataW H)) (ps : List MemPlace) (W : World), DataW.TrodAll enc C.prog W 0 (fun _ => true) true ts vs ds ps → ds.length = ts.length := by
    intro ts
    induction ts with
    | nil =>
      intro vs ds ps W h
      match vs, ds, h with
      | [], [], _ => rfl
    | cons t ts ih =>
      intro vs ds ps W h
      match vs, ds, h with
      | v :: vs, d :: ds, ⟨p, q, _, h2, _⟩ => simp [ih vs ds q W h2]
  refine returnsInHanded_of_change (C := C) own started noInit hfn witness ?_
  intro W base args ds gs before hval hW _ _
  have hA := hW
  obtain ⟨p, q, hA, _, _, _, _⟩ := hA
  have hlen := trodLen _ _ _ _ _ hA
  refine (h W base args ds p (fun j t v h1 h2 => hval j t v (by simpa using h1) (by simpa using h2)) hA).mono ?_
  rintro e W' ⟨rfl, hb⟩
  refine ⟨_, rfl, post_of_below hl ?_ hv (hs ds (by rw [hlen]; simp)) hrt htb hW hb⟩
  intro t ht
  have := List.all_eq_true.1 hr t ht
  simpa using this
end

/-! ### Arguments without addresses -/

inductive Kd where
  | bool
  | int (k : IntKind)

def Kd.fits : Kd → Value → Prop
  | .bool, v => ∃ b, v = .bool b
  | .int k, v => ∃ z, v = .int k z ∧ (Lit.int k z).wf = true

def Fits : List Kd → List Value → Prop
  | [], [] => True
  | k :: ks, v :: vs => k.fits v ∧ Fits ks vs
  | _, _ => False

theorem Fits.len : ∀ {ks : List Kd} {vs : List Value}, Fits ks vs → vs.length = ks.length
  | [], [], _ => rfl
  | _ :: _, _ :: _, h => by simp [Fits.len h.2]
  | [], _ :: _, h => h.elim
  | _ :: _, [], h => h.elim

theorem Fits.append : ∀ {a b : List Kd} {x y : List Value}, Fits a x → Fits b y → Fits (a ++ b) (x ++ y)
  | [], _, [], _, _, h => h
  | _ :: _, _, _ :: _, _, h, h' => ⟨h.1, Fits.append h.2 h'⟩
  | [], _, _ :: _, _, h, _ => h.elim
  | _ :: _, _, [], _, h, _ => h.elim

theorem Fits.split : ∀ {a b : List Kd} {v : List Value}, Fits (a ++ b) v → ∃ x y, v = x ++ y ∧ Fits a x ∧ Fits b y
  | [], _, v, h => ⟨[], v, rfl, trivial, h⟩
  | _ :: _, _, v :: vs, h => by
    obtain ⟨x, y, e, h1, h2⟩ := Fits.split h.2
    exact ⟨v :: x, y, by rw [e]; rfl, ⟨h.1, h1⟩, h2⟩
  | _ :: _, _, [], h => h.elim

def kindsF (P : Program) (kf : TypeId → Option (List Kd)) : Nat → List Field → Option (List Kd)
  | _, [] => some []
  | off, f :: fs =>
    match kf f.type, kindsF P kf (off + P.cellsOf f.type) fs with
    | some a, some b => if f.offset = off ∧ a.length = P.cellsOf f.type then some (a ++ b) else none
    | _, _ => none

/-- The kinds of a type's cells, where it holds no address. -/
def kinds (P : Program) : Nat → TypeId → Option (List Kd)
  | 0, _ => none
  | n + 1, t =>
    match P.underlying t with
    | some .bool => some [.bool]
    | some (.int k) => some [.int k]
    | some (.struct fs) =>
      match kindsF P (kinds P n) 0 fs.toList with
      | some ks => if ks.length = P.cellsOf t then some ks else none
      | none => none
    | some (.array m e) =>
      match kinds P n e with
      | some ks => if ks.length = P.cellsOf e ∧ P.cellsOf t = m * P.cellsOf e then some (List.replicate m ks).flatten else none
      | none => none
    | _ => none

section
variable {H : Type} {enc : TypeId × Value → H} {P : Program} {w : World} {base : Nat} {spare : Nat → Bool} {held : Bool}

theorem kindsF_fits {kf : TypeId → Option (List Kd)} {m : Nat} (hkf : ∀ t ks, kf t = some ks → ∀ cs (x : DataW H × List MemPlace), DataW.trod enc P w base spare held m t cs = some x → Fits ks cs) {cs : List Value} :
    ∀ (fs : List Field) (off : Nat) (ks : List Kd), kindsF P kf off fs = some ks → (∀ f ∈ fs, ∃ x, DataW.trod enc P w base spare held m f.type ((cs.drop f.offset).take (P.cellsOf f.type)) = some x) → Fits ks ((cs.drop off).take ks.length)
  | [], off, ks, h, _ => by simp [kindsF] at h; subst h; simp [Fits]
  | f :: fs, off, ks, h, hx => by
    simp only [kindsF] at h
    split at h
    · rename_i a b ha hb
      split at h
      · rename_i hc
        simp at h; subst h
        obtain ⟨x, hx1⟩ := hx f (by simp)
        have h1 := hkf _ _ ha _ _ hx1
        have h2 := kindsF_fits hkf fs _ _ hb (fun g hg => hx g (by simp [hg]))
        rw [hc.1] at h1
        have : (cs.drop off).take (a ++ b).length = (cs.drop off).take (P.cellsOf f.type) ++ (cs.drop (off + P.cellsOf f.type)).take b.length := by
          rw [List.length_append, hc.2, List.take_add, List.drop_drop]
        rw [this]
        exact h1.append h2
      · cases h
    · cases h

theorem array_fits {c : Nat} {ks : List Kd} (hk : ks.length = c) : ∀ (m : Nat) (cs : List Value), cs.length = m * c → (∀ i, i < m → Fits ks ((cs.drop (i * c)).take c)) → Fits (List.replicate m ks).flatten cs
  | 0, cs, h, _ => by
    have : cs = [] := by simpa using h
    subst this; trivial
  | m + 1, cs, h, hf => by
    have h0 := hf 0 (by omega)
    have h1 := array_fits hk m (cs.drop c) (by rw [List.length_drop, h, Nat.succ_mul]; omega) (fun i hi => by
      have := hf (i + 1) (by omega)
      rw [List.drop_drop]
      rw [Nat.succ_mul, Nat.add_comm] at this
      exact this)
    have e : cs = cs.take c ++ cs.drop c := (List.take_append_drop _ _).symm
    rw [e, List.replicate_succ, List.flatten_cons]
    simp only [Nat.zero_mul, List.drop_zero] at h0
    exact h0.append h1

theorem kinds_fits : ∀ (n : Nat) (t : TypeId) (ks : List Kd), kinds P n t = some ks → ∀ (fuel : Nat) (cs : List Value) (x : DataW H × List MemPlace), DataW.trod enc P w base spare held fuel t cs = some x → Fits ks cs
  | 0, _, _, h => by simp [kinds] at h
  | n + 1, t, ks, h => by
    intro fuel cs x hx
    unfold kinds at h
    split at h
    · rename_i ht
      simp at h; subst h
      obtain ⟨b, rfl, _⟩ := DataW.trod_bool ht hx
      exact ⟨⟨b, rfl⟩, trivial⟩
    · rename_i k ht
      simp at h; subst h
      obtain ⟨z, rfl, _, hw⟩ := DataW.trod_int ht hx
      exact ⟨⟨z, rfl, hw⟩, trivial⟩
    · rename_i fs ht
      split at h
      · rename_i l hl
        split at h
        · rename_i hc
          simp at h; subst h
          obtain ⟨xs, m, _, _, hlen, hsz, hf⟩ := DataW.trod_struct ht hx
          have := kindsF_fits (cs := cs) (fun t ks hk => kinds_fits n t ks hk m) fs.toList 0 _ hl (fun f hf' => by
            obtain ⟨i, hi, e⟩ := List.getElem_of_mem hf'
            have hi' : i < xs.length := by rw [hsz]; simpa using hi
            exact ⟨xs[i], by rw [hf i f (by rw [← e]; simp at hi; simp [hi])]; simp [hi']⟩)
          rw [List.drop_zero, hc, ← hlen, List.take_length] at this
          exact this
        · cases h
      · cases h
    · rename_i m e ht
      split at h
      · rename_i l hl
        split at h
        · rename_i hc
          simp at h; subst h
          obtain ⟨xs, k, _, _, hlen, hsz, hf⟩ := DataW.trod_array ht hx
          exact array_fits hc.1 m cs (by rw [hlen, hc.2]) (fun i hi => kinds_fits n e l hl k _ _ ((hf i hi).trans (by rw [List.getElem?_eq_getElem (by omega)])))
        · cases h
      · cases h
    · cases h

def isAgg (P : Program) (t : TypeId) : Bool :=
  match P.underlying t with
  | some (.struct _) | some (.array _ _) => true
  | _ => false

def kindsA (P : Program) (n : Nat) (t : TypeId) : Option (Bool × List Kd) := (kinds P n t).map fun ks => (isAgg P t, ks)

def FitsV : Bool × List Kd → Value → Prop
  | (true, ks), v => ∃ cs, v = .agg cs ∧ Fits ks cs.toList
  | (false, ks), v => Fits ks [v]

theorem kindsA_fits {n : Nat} {t : TypeId} {k : Bool × List Kd} (h : kindsA P n t = some k) {r : Reach} {b0 : Nat} {v : Value} {d : DataW H} {p : List MemPlace} (hv : Value.okWide P w r b0 t v)
    (hx : DataW.Trod enc P w base spare held t v d p) : FitsV k v := by
  unfold kindsA at h
  cases hk : kinds P n t with
  | none => rw [hk] at h; cases h
  | some ks =>
    rw [hk] at h
    simp at h; subst h
    obtain ⟨fuel, hx⟩ := hx
    have hf := kinds_fits n t ks hk fuel _ _ hx
    cases n with
    | zero => simp [kinds] at hk
    | succ n =>
      unfold isAgg
      split
      · rename_i fs ht
        obtain ⟨cs, rfl, _⟩ := okWide_struct ht hv
        exact ⟨cs, rfl, by simpa [Value.cells] using hf⟩
      · rename_i m e ht
        simp only [Value.okWide, ht] at hv
        obtain ⟨cs, rfl, _⟩ := hv
        exact ⟨cs, rfl, by simpa [Value.cells] using hf⟩
      · rename_i hns hna
        show Fits ks [v]
        unfold kinds at hk
        split at hk
        · rename_i ht
          obtain ⟨b, rfl⟩ := okWide_bool ht hv
          simpa [Value.cells] using hf
        · rename_i k ht
          obtain ⟨z, rfl⟩ : ∃ z, v = .int k z := by
            simp only [Value.okWide, ht, Cell.okWide] at hv
            cases v <;> simp_all [Cell.ok]
          simpa [Value.cells] using hf
        · rename_i fs ht; exact absurd ht (hns fs)
        · rename_i m e ht; exact absurd ht (hna m e)
        · cases hk

/-- A type's shape: cells without addresses; a slice of bytes. -/
inductive Shape where
  | flat (g : Bool) (ks : List Kd)
  | bytes

def shapeOf (P : Program) (n : Nat) (t : TypeId) : Option Shape :=
  match P.underlying t with
  | some (.slice e) =>
    match P.underlying e with
    | some (.int .u8) => if P.cellsOf e = 1 then some .bytes else none
    | _ => none
  | _ => match kindsA P n t with | some (g, ks) => some (.flat g ks) | none => none

/-- A value of a shape, in a world. -/
def Shaped (W : World) : Shape → Value → Prop
  | .flat g ks, v => FitsV (g, ks) v
  | .bytes, v => ∃ l g, HasBytes W l g ∧ v = spotVal l.length g

theorem shape_fits {n : Nat} {t : TypeId} {s : Shape} (h : shapeOf P n t = some s) {r : Reach} {b0 : Nat} {v : Value} {d : DataW H} {p : List MemPlace} (hv : Value.okWide P w r b0 t v)
    (hx : DataW.Trod enc P w base spare held t v d p) : Shaped w s v := by
  unfold shapeOf at h
  split at h
  · rename_i e ht
    split at h
    · rename_i he
      split at h
      · rename_i hc
        obtain rfl := Option.some.inj h
        obtain ⟨a, len, cap, rfl⟩ := okWide_slice ht hv
        obtain ⟨fuel, hx⟩ := hx
        rcases open_ints ht he hc hx with ⟨e1, _⟩ | ⟨a', len', cap', zs, e1, _, hlc, _, hzl, _, hcell, hwf⟩
        · simp [Value.cells] at e1
          obtain ⟨rfl, rfl, rfl⟩ := e1
          exact ⟨[], ⟨none, 0⟩, ⟨Nat.le_refl _, fun _ => rfl, fun a ha => (by cases ha)⟩, rfl⟩
        · simp [Value.cells] at e1
          obtain ⟨rfl, rfl, rfl⟩ := e1
          have hlz : len ≤ zs.length := by rw [hzl]; split <;> omega
          have hu : ∀ i, i < zs.length → ((UInt8.ofNat (zs.getD i 0).toNat).toNat : Int) = zs.getD i 0 := by
            intro i hi
            have hm : zs.getD i 0 ∈ zs := by rw [List.getD_eq_getElem?_getD, List.getElem?_eq_getElem hi]; exact List.getElem_mem hi
            have := hwf _ hm
            have hw : (0 : Int) ≤ zs.getD i 0 ∧ zs.getD i 0 ≤ 255 := by simpa [Lit.wf, IntKind.min, IntKind.max, IntKind.signed, IntKind.bits] using this
            obtain ⟨k, hk⟩ := Int.eq_ofNat_of_zero_le hw.1
            rw [hk] at hw ⊢
            rw [Int.toNat_natCast, UInt8.toNat_ofNat_of_lt' (show k < 256 by omega)]
          refine ⟨(zs.take len).map fun z => UInt8.ofNat z.toNat, ⟨some a', cap⟩, ⟨by simp; omega, fun ha => (by cases ha), fun b hb i hi => ?_⟩, ?_⟩
          · obtain rfl := Option.some.inj hb
            simp at hi
            rw [hcell i (by omega)]
            congr 2
            have e1 : ((zs.take len).map fun z => UInt8.ofNat z.toNat).getD i 0 = UInt8.ofNat (zs.getD i 0).toNat := by
              simp only [List.getD_eq_getElem?_getD, List.getElem?_map, List.getElem?_take, if_pos (show i < len by omega), List.getElem?_eq_getElem (show i < zs.length by omega), Option.map_some, Option.getD_some]
            exact ((congrArg (fun u : UInt8 => (u.toNat : Int)) e1).trans (hu i (by omega))).symm
          · have hmin : min len zs.length = len := by omega
            simp [spotVal, hmin]
      · cases h
    · cases h
  · split at h
    · rename_i g ks hk
      obtain rfl := Option.some.inj h
      exact kindsA_fits hk hv hx
    · cases h

def ShapedAll (W : World) : List Shape → List Value → Prop
  | [], [] => True
  | s :: ss, v :: vs => Shaped W s v ∧ ShapedAll W ss vs
  | _, _ => False

theorem allShaped {n : Nat} {r : Reach} {b0 : Nat} : ∀ (ts : List TypeId) (ss : List Shape) (vs : List Value) (ds : List (DataW H)) (ps : List MemPlace), ts.map (shapeOf P n) = ss.map some →
    (∀ (j : Nat) t v, ts[j]? = some t → vs[j]? = some v → Value.okWide P w r b0 t v) → DataW.TrodAll enc P w base spare held ts vs ds ps → ShapedAll w ss vs
  | [], ss, vs, ds, ps, h, _, hx => by
    match ss, vs, ds, hx with
    | [], [], [], _ => trivial
    | _ :: _, _, _, _ => simp at h
  | t :: ts, [], _, _, _, h, _, _ => by simp at h
  | t :: ts, s :: ss, [], _, _, _, _, hx => hx.elim
  | t :: ts, s :: ss, v :: vs, [], _, _, _, hx => hx.elim
  | t :: ts, s :: ss, v :: vs, d :: ds, ps, h, hv, ⟨p, q, h1, h2, _⟩ => by
    simp only [List.map_cons, List.cons.injEq] at h
    exact ⟨shape_fits h.1 (hv 0 t v rfl rfl) h1, allShaped ts ss vs ds q h.2 (fun j t' v' a b => hv (j + 1) t' v' (by simpa using a) (by simpa using b)) h2⟩
end

/-- Cells of these kinds are a datum of this type. -/
class Opens (A : Type) [Atom A] (T : Type) [Rep A T] where
  kds : List Kd
  opens : ∀ cs, Fits kds cs → ∃ x : T, cs = Rep.vals A x

/-- Values of this shape are an argument of this type. -/
class OpensArg (A : Type) [Atom A] (T : Type) [Arg A T] where
  shape : Shape
  opens : ∀ W v, Shaped W shape v → ∃ (g : Arg.G A T) (x : T), Arg.good W g x ∧ v = Arg.val g x

class OpensAll (A : Type) [Atom A] (Γ : Type) [Args A Γ] where
  shapes : List Shape
  opens : ∀ W vs, ShapedAll W shapes vs → ∃ (g : Args.G A Γ) (x : Γ), Args.good W g x ∧ vs = Args.vals g x

section
variable {A : Type} [Atom A]
instance : OpensAll A Unit where
  shapes := []
  opens W vs h := by
    match vs, h with
    | [], _ => exact ⟨(), (), trivial, rfl⟩
    | _ :: _, h => exact h.elim

instance {T Γ : Type} [Arg A T] [Args A Γ] [OpensArg A T] [OpensAll A Γ] : OpensAll A (T × Γ) where
  shapes := OpensArg.shape A T :: OpensAll.shapes A Γ
  opens W vs h := by
    match vs, h with
    | [], h => exact h.elim
    | v :: vs, ⟨h1, h2⟩ =>
      obtain ⟨g2, y, k2, rfl⟩ := OpensAll.opens W vs h2
      obtain ⟨g1, x, k1, rfl⟩ := OpensArg.opens W v h1
      exact ⟨(g1, g2), (x, y), ⟨k1, k2⟩, rfl⟩

instance (priority := low) {T : Type} [Rep A T] [Opens A T] : OpensArg A T where
  shape := .flat (Rep.agg A T) (Opens.kds A T)
  opens W v h := by
    suffices ∃ x : T, v = Rep.val (A := A) x by
      obtain ⟨x, rfl⟩ := this
      exact ⟨(), x, trivial, rfl⟩
    have h1 : FitsV (Rep.agg A T, Opens.kds A T) v := h
    unfold Rep.val
    cases hag : Rep.agg A T with
    | true =>
      rw [hag] at h1
      obtain ⟨cs, rfl, h1⟩ := h1
      obtain ⟨x, e⟩ := Opens.opens (A := A) _ h1
      exact ⟨x, by rw [← e]⟩
    | false =>
      rw [hag] at h1
      obtain ⟨x, e⟩ := Opens.opens (A := A) _ (show Fits (Opens.kds A T) [v] from h1)
      exact ⟨x, by rw [← e]; rfl⟩

instance {S T : Type} [Rep A S] [Rep A T] [Sized A S] [Opens A S] [Opens A T] : Opens A (S × T) where
  kds := Opens.kds A S ++ Opens.kds A T
  opens cs h := by
    obtain ⟨x, y, rfl, h1, h2⟩ := Fits.split h
    obtain ⟨a, rfl⟩ := Opens.opens (A := A) _ h1
    obtain ⟨b, rfl⟩ := Opens.opens (A := A) _ h2
    exact ⟨(a, b), rfl⟩
end

instance {B : Type} [Big B] : OpensArg (At B) Bs where
  shape := .bytes
  opens W v h := by
    obtain ⟨l, g, h1, rfl⟩ := h
    exact ⟨g, ⟨l⟩, h1, rfl⟩

theorem Fits.one {k : Kd} {cs : List Value} (h : Fits [k] cs) : ∃ v, cs = [v] ∧ k.fits v := by
  match cs, h with
  | [v], h => exact ⟨v, rfl, h.1⟩
  | [], h => exact h.elim
  | _ :: _ :: _, h => exact h.2.elim

section
variable {B : Type} [Big B]
instance : Opens (At B) UInt64 where
  kds := [.int .u64]
  opens cs h := by
    obtain ⟨v, rfl, z, rfl, hw⟩ := h.one
    have hw' : (0 : Int) ≤ z ∧ z ≤ 18446744073709551615 := by simpa [Lit.wf, IntKind.min, IntKind.max, IntKind.signed, IntKind.bits] using hw
    obtain ⟨n, rfl⟩ := Int.eq_ofNat_of_zero_le hw'.1
    refine ⟨UInt64.ofNat n, ?_⟩
    show [Value.int .u64 n] = [Value.int .u64 ((UInt64.ofNat n).toNat : Int)]
    rw [UInt64.toNat_ofNat_of_lt' (show n < 18446744073709551616 by omega)]

instance : Opens (At B) UInt32 where
  kds := [.int .u32]
  opens cs h := by
    obtain ⟨v, rfl, z, rfl, hw⟩ := h.one
    have hw' : (0 : Int) ≤ z ∧ z ≤ 4294967295 := by simpa [Lit.wf, IntKind.min, IntKind.max, IntKind.signed, IntKind.bits] using hw
    obtain ⟨n, rfl⟩ := Int.eq_ofNat_of_zero_le hw'.1
    refine ⟨UInt32.ofNat n, ?_⟩
    show [Value.int .u32 n] = [Value.int .u32 ((UInt32.ofNat n).toNat : Int)]
    rw [UInt32.toNat_ofNat_of_lt' (show n < 4294967296 by omega)]

instance : Opens (At B) UInt8 where
  kds := [.int .u8]
  opens cs h := by
    obtain ⟨v, rfl, z, rfl, hw⟩ := h.one
    have hw' : (0 : Int) ≤ z ∧ z ≤ 255 := by simpa [Lit.wf, IntKind.min, IntKind.max, IntKind.signed, IntKind.bits] using hw
    obtain ⟨n, rfl⟩ := Int.eq_ofNat_of_zero_le hw'.1
    refine ⟨UInt8.ofNat n, ?_⟩
    show [Value.int .u8 n] = [Value.int .u8 ((UInt8.ofNat n).toNat : Int)]
    rw [UInt8.toNat_ofNat_of_lt' (show n < 256 by omega)]

instance : Opens (At B) Bool where
  kds := [.bool]
  opens cs h := by
    obtain ⟨v, rfl, b, rfl⟩ := h.one
    exact ⟨b, rfl⟩

instance : Opens (At B) Int where
  kds := [.int .i64]
  opens cs h := by
    obtain ⟨v, rfl, z, rfl, _⟩ := h.one
    exact ⟨z, rfl⟩
end

/-- A law's statement out of its contract. -/
theorem law_row {A : Type} [Atom A] {H : Type} {enc : TypeId × Value → H} {C : Checked} {os : Os} {f : FuncId} {fn : Func} {s : ChangeSpec} {apart fresh handsOn again : Bool} {tb : TypeId} {Γ : Type} [Args A Γ] [OpensAll A Γ] [Res A Bool]
    (hT : Res.val A true = Value.bool true) (hc : Computes A C.prog f (fun _ : Γ => true)) (n : Nat) (hk : fn.params.toList.map (shapeOf C.prog n) = (OpensAll.shapes A Γ).map some)
    (started : os.Started) (hfn : C.prog.funcs[f]? = some fn) (hnm : (fn.name == "runtime.NumGoroutine") = false) (hbd : fn.body.isNone = false)
    (own : ownKnob C.prog.godebug = none) (noInit : C.prog.inits.idxOf? f = none) (hl : laidOutB C.prog = true)
    (hr : fn.params.toList.all (fun t => C.prog.readableRec t && decide (t < C.prog.types.size)) = true) (hv : s.vars = []) (hrt : fn.resultTypes = #[tb]) (htb : C.prog.underlying tb = some .bool)
    (hs : ∀ ds : List (DataW H), ds.length = fn.params.size → s.fn H ds = { results := [.lit (.bool true)], args := ds })
    (witness : ∃ (w : World) (tape : Tape) (i : Input), w.os = os ∧ (w.forCall tape i).Shaped C.prog ∧ i.vars = [] ∧ Input.okWide C.prog (w.forCall tape i) .any w.heap.size f i ∧
      s.pre6 enc C.prog fn [] apart (w.forCall tape i).memory i.args ∧ ({} : Assume).holds C.prog (lone (Frame.enter C.prog f i.args .normal) [] (w.forCall tape i))) :
    ReturnsInHanded {} C os f .any (s.pre6 enc C.prog fn [] apart) (s.post enc C.prog fn apart fresh handsOn again) := by
  refine law_returns started hfn own noInit hl hr hv hrt htb hs witness ?_
  intro W base args ds ps hval hA
  obtain ⟨g, x, hg, hx⟩ := OpensAll.opens (A := A) (Γ := Γ) W _ (allShaped _ _ _ _ _ hk hval hA)
  obtain ⟨l⟩ := args
  have hx' : l = Args.vals g x := hx
  subst hx'
  rcases hc g x W hg with ⟨v, h1, _⟩ | ⟨_, h2⟩
  · rw [callFunc_enter hfn hnm hbd] at h1
    simp at h1
  · refine h2.mono ?_
    rintro e W' ⟨v, rfl, rfl, hk⟩
    exact ⟨by rw [hT], hk.below⟩
end Go.Sh

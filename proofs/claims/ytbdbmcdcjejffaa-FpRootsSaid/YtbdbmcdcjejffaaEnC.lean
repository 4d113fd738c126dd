/- What the operations on shadows say is what the operations on values do. -/
import Derived.Test.YtbdbmcdcjejffaaEnS
set_option linter.unusedVariables false
set_option linter.unusedSimpArgs false
set_option linter.unusedSectionVars false
namespace Go.Sh
open Go.RowKit

/-- A fence that lets all by. -/
def Fr (r : Option Nat) : Fence := { Fence.wide with round := r }

theorem callsIn_fr {r : Option Nat} {n : Nat} {P : Program} {f : FuncId} {args : Array Value} {w : World} {R : Ending → World → Prop} (h : Calls P f args w R) : CallsIn (Fr r) n P f args w R :=
  ⟨trivial, fun cs hr => (callsIn_wide.2 h : CallsIn Fence.wide n P f args w R).2 cs (fun d hd => by simp [Fence.wide] at hd)⟩

/-- An operation that yields. -/
def Yld (r : Option Nat) (n : Nat) (P : Program) (o : Oper) (a : Act) (W : World) (post : Value → World → Prop) : Prop :=
  ∀ (next : Act → World → Prop) (Q : Exit → Act → World → Prop), (∀ v W', post v W' → next (a.put o.dst v) W') → o.wpIn (Fr r) n P a W next Q

section
variable {r : Option Nat} {n : Nat} {P : Program} {o : Oper} {a : Act} {W W' : World} {post : Value → World → Prop}

theorem Yld.mono {post' : Value → World → Prop} (h : Yld r n P o a W post) (hp : ∀ v W', post v W' → post' v W') : Yld r n P o a W post' :=
  fun next Q hn => h next Q (fun v W' hv => hn v W' (hp v W' hv))

theorem yld_value {v : Value} (hd : ∀ c, o.op ≠ .defer c) (h : (execOp a.eval o).run P W = .ok (.value v) W') (hp : post v W') : Yld r n P o a W post := by
  intro next Q hn
  refine ⟨fun _ _ => trivial, ?_⟩
  rw [Oper.semAt_eq _ _ _ hd, h]
  exact hn v W' hp

theorem yld_skip (hd : ∀ c, o.op ≠ .defer c) (h : (execOp a.eval o).run P W = .ok .skip W') (hp : post undef W') : Yld r n P o a W post := by
  intro next Q hn
  refine ⟨fun _ _ => trivial, ?_⟩
  rw [Oper.semAt_eq _ _ _ hd, h]
  exact hn undef W' hp

theorem yld_enter {f : FuncId} {args : Array Value} (hd : ∀ c, o.op ≠ .defer c) (h : (execOp a.eval o).run P W = .ok (.enter f args) W')
    (hc : Calls P f args W' (fun e W'' => ∃ v, e = .returned v ∧ post v W'')) : Yld r n P o a W post := by
  intro next Q hn
  refine ⟨fun _ _ => trivial, ?_⟩
  rw [Oper.semAt_eq _ _ _ hd, h]
  refine ⟨fun hx => by simp [Fr, Fence.wide] at hx, (callsIn_fr hc).mono ?_⟩
  rintro e W'' ⟨v, rfl, hv⟩
  exact hn v W'' hv

/-- A call of function g: it runs here and now, or it is entered. -/
def CallSem (P : Program) (g : FuncId) (vs : List Value) (W : World) (post : Value → World → Prop) : Prop :=
  (∃ v, (callFunc g vs.toArray).run P W = .ok (.value v) W ∧ post v W) ∨
  ((callFunc g vs.toArray).run P W = .ok (.enter g vs.toArray) W ∧ Calls P g vs.toArray W (fun e W' => ∃ v, e = .returned v ∧ post v W'))

end

section
variable {A : Type} [Atom A]

/-- The table of calls is right. -/
def CallsOK (c : Cfg A) : Prop :=
  ∀ (g : FuncId) (args : List (TV A)) (m : Mem A) (res : TV A) (mm : Option (Mem A)) (vc : List Prop), c.call g args m = some (res, mm, vc) → (∀ p ∈ vc, p) →
    ∀ (X : Nat → Prop) (W0 W : World) (β : Adr) (vs : List Value), MRel c X W0 β m W → TsIs β args vs →
      match mm with
      | none => CallSem c.P g vs W (fun v W' => ∃ K, Fresh W W' K ∧ res.Is (β.know K) v ∧ Keeps W W')
      | some m' => Top β m → CallSem c.P g vs W (fun v W' => ∃ β', Adr.le β β' ∧ res.Is β' v ∧ MRel c X W0 β' m' W' ∧ Top β' m' ∧ NC W W')

section runs
variable {P : Program} {w : World} {β : Adr}

theorem run_isAgg {t : TypeId} {b : Bool} (h : isAggB P t = some b) : (isAgg t).run P w = .ok b w := by
  unfold isAggB at h
  unfold isAgg
  cases hu : P.underlying t with
  | none => simp [hu] at h
  | some d =>
    rw [Sem.run_bind, run_underlying hu w]
    simp only [hu] at h
    cases d <;> simp_all

theorem run_sizeT {t : TypeId} {k : Nat} (h : sizeT P t = some k) : (sizeOf t).run P w = .ok k w := by
  unfold sizeT at h
  split at h
  · rename_i i hi
    simp at h; subst h
    simp [sizeOf, typeInfo, hi]
  · cases h

theorem run_zeroT {t : TypeId} {cells : List (SV A)} (h : zeroT P t = some cells) : ∃ v, (zeroValue t).run P w = .ok v w ∧ LIs β cells v.cells.toList := by
  unfold zeroT at h
  split at h
  · rename_i i hi
    split at h
    · rename_i v hz
      split at h
      · rename_i hall
        simp at h; subst h
        exact ⟨v, by simp [zeroValue, typeInfo, hi, hz], LIs.vs (fun x hx => List.all_eq_true.1 hall x hx)⟩
      · cases h
    · cases h
  · cases h

theorem run_partV {t : TypeId} {l : List (SV A)} {off : Nat} {tv : TV A} {vs : List Value} (h : partV P t l off = some tv) (hl : LIs β l vs) :
    ∃ v, (part t vs.toArray off).run P w = .ok v w ∧ tv.Is β v := by
  unfold partV at h
  split at h
  · rename_i k ha hs
    split at h
    · rename_i x hx
      simp at h; subst h
      obtain ⟨h1, h2⟩ := cut_is hl hx
      refine ⟨.agg ((vs.drop off).take k).toArray, ?_, ⟨_, h1, rfl⟩⟩
      unfold part
      rw [Sem.run_bind, run_isAgg ha]
      simp only [Result.andThen_ok, if_true, Sem.run_bind, run_sizeT hs, Sem.run_pure]
      congr 2
      simp only [List.extract_toArray, List.extract_eq_take_drop]
      congr 2
      omega
    · cases h
  · rename_i ha _
    split at h
    · rename_i x hx
      simp at h; subst h
      obtain ⟨h1, h2⟩ := cut_is hl hx
      have hlt : off < vs.length := by omega
      have e : (vs.drop off).take 1 = [vs[off]] := by
        rw [List.drop_eq_getElem_cons hlt]; rfl
      rw [e] at h1
      refine ⟨vs[off], ?_, h1⟩
      unfold part
      rw [Sem.run_bind, run_isAgg ha]
      simp [hlt]
    · cases h
  · cases h

theorem add_none (b off k : Nat) : (⟨b, off, none⟩ : Addr).add k = ⟨b, off + k, none⟩ := by
  unfold Addr.add; split <;> simp_all

theorem run_loadPart {t : TypeId} {l : List (SV A)} {off b : Nat} {tv : TV A} {vs : List Value} {ty : TypeId} {fz : Nat × Nat} (h : partV P t l off = some tv) (hl : LIs β l vs)
    (hb : w.heap[b]? = some (.cells vs.toArray ty fz)) : ∃ v, (loadVar t ⟨b, off, none⟩).run P w = .ok v w ∧ tv.Is β v := by
  unfold partV at h
  split at h
  · rename_i k ha hs
    split at h
    · rename_i x hx
      simp at h; subst h
      obtain ⟨h1, h2⟩ := cut_is hl hx
      refine ⟨.agg ((vs.drop off).take k).toArray, ?_, ⟨_, h1, rfl⟩⟩
      unfold loadVar
      rw [Sem.run_bind, run_isAgg ha]
      simp only [Result.andThen_ok, if_true, Sem.run_bind, run_sizeT hs, Sem.run_pure]
      have hlen : ((vs.drop off).take k).length = k := by simp; omega
      have := run_loadCells_list (P := P) w ⟨b, off, none⟩ ((vs.drop off).take k) (fun j v hv => by
        rw [add_none, cell_of_row w b (off + j) _ ty fz hb]
        rw [List.getElem?_take] at hv
        split at hv
        · simpa [List.getElem?_drop] using hv
        · cases hv)
      rw [hlen] at this
      rw [this]
      rfl
    · cases h
  · rename_i ha _
    split at h
    · rename_i x hx
      simp at h; subst h
      obtain ⟨h1, h2⟩ := cut_is hl hx
      have hlt : off < vs.length := by omega
      have e : (vs.drop off).take 1 = [vs[off]] := by
        rw [List.drop_eq_getElem_cons hlt]; rfl
      rw [e] at h1
      refine ⟨vs[off], ?_, h1⟩
      unfold loadVar
      rw [Sem.run_bind, run_isAgg ha]
      simp only [Result.andThen_ok, Bool.false_eq_true, if_false]
      rw [run_load, cell_of_row w b off _ ty fz hb]
      simp [hlt]
    · cases h
  · cases h

theorem run_storePart {t : TypeId} {off b : Nat} {v : Value} {vs : List Value} {ty : TypeId} (hs : sizeT P t = some v.cells.toList.length)
    (hb : w.heap[b]? = some (.cells vs.toArray ty (0, 0))) (hl : off + v.cells.toList.length ≤ vs.length) (h1 : ∀ x ∈ v.cells.toList, x.oneCell' = true) :
    (storeVar t ⟨b, off, none⟩ v).run P w = .ok () (w.setRow b (vs.take off ++ v.cells.toList ++ vs.drop (off + v.cells.toList.length)).toArray) := by
  unfold storeVar
  rw [Sem.run_bind, run_sizeT hs]
  simp only [Result.andThen_ok, Array.length_toList]
  have := run_storeCells_at (P := P) b off ty v.cells.toList 0 vs.toArray w hb (by simpa using hl) h1
  simpa using this

end runs

section bins
variable {P : Program} {w : World} {β : Adr}

theorem arith_run {op : BinOp} {k : IntKind} {x y z : Int} (t : TypeId) (h1 : op ≠ .shl) (h2 : op ≠ .shr) (h : arith op k x y = some z) :
    (binOp op t (.int k x) (.int k y)).run P w = .ok (.int k (k.wrap z)) w := by
  cases op <;> simp_all [arith, binOp, Op.intArith, Op.intBits] <;> (subst h; rfl)

theorem compare_run {op : BinOp} {k : IntKind} {x y : Int} {z : Bool} (t : TypeId) (h : compare op x y = some z) :
    (binOp op t (.int k x) (.int k y)).run P w = .ok (.bool z) w := by
  cases op <;> simp_all [compare, binOp, Op.intCmp]

theorem shift_run {op : BinOp} {k k' : IntKind} {x : Int} {m : Nat} {s r : SV A} {lit ly : Bool} (t : TypeId) (h : isShift op = true) (hs : intOfSV s = some (lit, k, x)) (e : shiftK op s lit k x ly m = some r) :
    ∃ z, (binOp op t (.int k x) (.int k' (m : Int))).run P w = .ok (.int k z) w ∧ r.Is β [.int k z] := by
  have h0 : ¬ ((m : Int) < 0) := by omega
  unfold shiftK at e
  split at e
  · simp at e
    subst e
    exact ⟨_, by simp [binOp, Op.shift, h0], mkW_is ..⟩
  · refine ⟨x.fdiv (2 ^ min m k.bits), by simp [binOp, Op.shift, h0], ?_⟩
    split at e
    · simp at e; subst e
      split
      · exact ⟨rfl, rfl⟩
      · exact rfl
    · rename_i z
      split at e
      · rename_i z' hz'
        simp at e; subst e
        simp only [intOfSV] at hs
        split at hs
        · rename_i k1 z1 hz1
          simp at hs
          obtain ⟨_, rfl, rfl⟩ := hs
          exact (Atom.shr_ok hz' hz1).symm
        · cases hs
      · simp at e; subst e; exact rfl
    · simp at e; subst e; exact rfl
  · cases e

theorem guard_ints (op : BinOp) (t : TypeId) (x y : Operand) (k k' : IntKind) (a b : Int) : (eqGuard op t x y (.int k a) (.int k' b)).run P w = .ok () w := by
  unfold eqGuard
  split <;> simp

theorem binV_run {op : BinOp} {t : TypeId} {x y : Operand} {xv yv tv : TV A} {u v : Value} (h : binV P op t xv yv = some tv) (hx : xv.Is β u) (hy : yv.Is β v) :
    ∃ z, (eqGuard op t x y u v).run P w = .ok () w ∧ (binOp op t u v).run P w = .ok z w ∧ tv.Is β z := by
  unfold binV at h
  split at h
  · rename_i x' y'
    have hx1 := LIs.single hx
    have hy1 := LIs.single hy
    split at h
    · rename_i lx kx a ly ky b h1 h2
      have eu := intOfSV_is hx1 h1
      have ev := intOfSV_is hy1 h2
      subst eu; subst ev
      split at h
      · cases h
      · cases h
      · rename_i ho1 ho2
        split at h
        · rename_i hk
          subst hk
          split at h
          · rename_i r hr
            simp at h; subst h
            exact ⟨_, guard_ints .., arith_run t ho1 ho2 hr, LIs.of_single (mkW_is ..)⟩
          · split at h
            · rename_i r hr
              simp at h; subst h
              exact ⟨_, guard_ints .., compare_run t hr, LIs.of_single (mkB_is ..)⟩
            · cases h
        · cases h
    · split at h
      · rename_i lx a ly b h1 h2 hu
        have eu := boolSV_is hx1 h1
        have ev := boolSV_is hy1 h2
        subst eu; subst ev
        have eq : (Op.equal t (.bool a) (.bool b)).run P w = .ok (a == b) w := run_equalIn_bool' w 9999 t a b hu
        have gd : (eqGuard op t x y (.bool a) (.bool b)).run P w = .ok () w := by
          unfold eqGuard
          split <;> simp
        split at h
        · simp at h; subst h
          exact ⟨_, gd, by simp only [binOp, Sem.run_bind, eq, Result.andThen_ok, Sem.run_pure], LIs.of_single (mkB_is ..)⟩
        · obtain rfl := Option.some.inj h
          exact ⟨_, gd, by simp only [binOp, Sem.run_bind, eq, Result.andThen_ok, Sem.run_pure], LIs.of_single (mkB_is ..)⟩
        · cases h
      · cases h
  · rename_i l r
    obtain ⟨xs, hxs, rfl⟩ := hx
    obtain ⟨ys, hys, rfl⟩ := hy
    split at h
    · rename_i n lit q hb ht hq
      split at h
      · rename_i hl
        simp at h; subst h
        have := eqAgg_run (P := P) (w := w) (op := .eql) (x := x) (y := y) hb ht hq hl (flat_is hxs) (flat_is hys)
        exact ⟨.bool q, this.2, by simp [binOp, this.1], LIs.of_single (mkB_is ..)⟩
      · cases h
    · rename_i n lit q hb ht hq
      split at h
      · rename_i hl
        simp at h; subst h
        have := eqAgg_run (P := P) (w := w) (op := .neq) (x := x) (y := y) hb ht hq hl (flat_is hxs) (flat_is hys)
        exact ⟨.bool !q, this.2, by simp [binOp, this.1], LIs.of_single (mkB_is ..)⟩
      · cases h
    · cases h
  · cases h

theorem divV_run {op : BinOp} {t : TypeId} {x y : Operand} {xv yv tv : TV A} {vc : List Prop} {u v : Value} (h : divV op xv yv = some (tv, vc)) (hvc : ∀ p ∈ vc, p) (hx : xv.Is β u) (hy : yv.Is β v) :
    ∃ z, (eqGuard op t x y u v).run P w = .ok () w ∧ (binOp op t u v).run P w = .ok z w ∧ tv.Is β z := by
  unfold divV at h
  split at h
  · rename_i x' y'
    have hx1 := LIs.single hx
    have hy1 := LIs.single hy
    split at h
    · rename_i lx kx a ly ky b h1 h2
      have eu := intOfSV_is hx1 h1
      have ev := intOfSV_is hy1 h2
      subst eu; subst ev
      split at h
      · rename_i hsh
        split at h
        · split at h
          · rename_i m hm
            have hm' := natOf_eq hm
            subst hm'
            split at h
            · rename_i r hr
              simp at h; obtain ⟨rfl, rfl⟩ := h
              obtain ⟨z, k1, k2⟩ := shift_run (P := P) (w := w) (β := β) (k' := ky) t hsh h1 hr
              exact ⟨_, guard_ints .., k1, LIs.of_single k2⟩
            · cases h
          · cases h
        · split at h
          · rename_i r hr
            simp at h; obtain ⟨rfl, rfl⟩ := h
            have hb : 0 ≤ b := hvc _ (by simp)
            obtain ⟨z, k1, k2⟩ := shift_run (P := P) (w := w) (β := β) (k' := ky) t hsh h1 hr
            rw [Int.toNat_of_nonneg hb] at k1
            exact ⟨_, guard_ints .., k1, LIs.of_single k2⟩
          · cases h
      split at h
      · rename_i hk
        subst hk
        have quo : b ≠ 0 → (binOp .quo t (.int kx a) (.int kx b)).run P w = .ok (.int kx (kx.wrap (a.tdiv b))) w := fun h0 => by simp [binOp, Op.intDiv, h0]
        have rem : b ≠ 0 → (binOp .rem t (.int kx a) (.int kx b)).run P w = .ok (.int kx (a.tmod b)) w := fun h0 => by simp [binOp, Op.intDiv, h0]
        split at h
        · split at h
          · split at h
            · cases h
            · rename_i h0
              simp at h
              obtain ⟨rfl, rfl⟩ := h
              exact ⟨_, guard_ints .., quo h0, LIs.of_single (mkW_is ..)⟩
          · simp at h
            obtain ⟨rfl, rfl⟩ := h
            exact ⟨_, guard_ints .., quo (hvc _ (by simp)), LIs.of_single (mkW_is ..)⟩
        · split at h
          · split at h
            · cases h
            · rename_i h0
              simp at h
              obtain ⟨rfl, rfl⟩ := h
              exact ⟨_, guard_ints .., rem h0, LIs.of_single ⟨rfl, rfl⟩⟩
          · split at h
            · rename_i y hy
              simp at h
              obtain ⟨rfl, rfl⟩ := h
              have h3 := hvc (b ≠ 0 ∧ kx.wrap (a.tmod b) = a.tmod b) (by simp)
              refine ⟨_, guard_ints .., rem h3.1, LIs.of_single ?_⟩
              have h4 := Atom.wrap_ok hy
              rw [h3.2] at h4
              exact h4.symm
            · split at h
              · split at h
                · cases h
                · rename_i h0
                  simp at h
                  obtain ⟨rfl, rfl⟩ := h
                  exact ⟨_, guard_ints .., rem h0, LIs.of_single rfl⟩
              · simp at h
                obtain ⟨rfl, rfl⟩ := h
                exact ⟨_, guard_ints .., rem (hvc (b ≠ 0) (by simp)), LIs.of_single rfl⟩
        · cases h
      · cases h
    · cases h
  · cases h

theorem extV_run {mx : Bool} {l : List (TV A)} {tv : TV A} {vs : List Value} (h : extV mx l = some tv) (hl : TsIs β l vs) (a t : Array TypeId) (ty : TypeId) :
    ∃ z, (match mx with | true => Builtin.max_ a ty vs.toArray | false => Builtin.min_ t ty vs.toArray : Sem Value).run P w = .ok z w ∧ tv.Is β z := by
  unfold extV at h
  split at h
  · rename_i x y
    obtain ⟨u, r, hu, ⟨v, r', hv, e, rfl⟩, rfl⟩ := hl
    obtain rfl : r' = [] := e
    split at h
    · rename_i lx kx a' ly ky b h1 h2
      simp at h; subst h
      have eu := intOfSV_is (LIs.single hu) h1
      have ev := intOfSV_is (LIs.single hv) h2
      subst eu; subst ev
      cases mx
      · refine ⟨.int kx (if b < a' then b else a'), by simp [Builtin.min_, Builtin.min2], LIs.of_single ?_⟩
        simp only [Bool.false_eq_true, if_false]
        split
        · exact ⟨rfl, rfl⟩
        · exact rfl
      · refine ⟨.int kx (if b > a' then b else a'), by simp [Builtin.max_, Builtin.max2], LIs.of_single ?_⟩
        simp only [if_true]
        split
        · exact ⟨rfl, rfl⟩
        · exact rfl
    · cases h
  · cases h

theorem unV_run {op : UnOp} {xv tv : TV A} {u : Value} (h : unV op xv = some tv) (hx : xv.Is β u) : ∃ z, (Op.unary op u).run P w = .ok z w ∧ tv.Is β z := by
  unfold unV at h
  split at h
  · rename_i b
    obtain ⟨e, _⟩ := LIs.single hx
    simp at e; subst e
    split at h
    · simp at h; subst h
      exact ⟨.bool !b, by simp [Op.unary], LIs.of_single ⟨rfl, rfl⟩⟩
    · cases h
  · rename_i b
    have e := LIs.single hx
    simp [SV.Is] at e; subst e
    split at h
    · simp at h; subst h
      exact ⟨.bool !b, by simp [Op.unary], LIs.of_single rfl⟩
    · cases h
  · rename_i s _ _
    split at h
    · rename_i l k a hs
      have e := intOfSV_is (LIs.single hx) hs
      subst e
      split at h
      · obtain rfl := Option.some.inj h
        exact ⟨_, by simp only [Op.unary, Op.intArith, Sem.run_pure], LIs.of_single (mkW_is ..)⟩
      · obtain rfl := Option.some.inj h
        exact ⟨_, by simp only [Op.unary, Op.intBits, Sem.run_pure], LIs.of_single (mkW_is ..)⟩
      · cases h
    · cases h
  · cases h

theorem numOf_is {t : TV A} {v : Value} {l : Bool} {z : Int} (h : t.Is β v) (e : numOf t = some (l, z)) : ∃ k, v = .int k z := by
  unfold numOf at e
  split at e
  · split at e
    · rename_i l' k z' hs
      simp at e
      obtain ⟨_, rfl⟩ := e
      exact ⟨k, intOfSV_is (LIs.single h) hs⟩
    · cases e
  · cases e

theorem Addr.add_add (a : Addr) (i j : Nat) : (a.add i).add j = a.add (i + j) := by
  unfold Addr.add
  by_cases hi : i = 0
  · subst hi; simp
  · by_cases hj : j = 0
    · subst hj; simp [hi]
    · simp [hi, hj, Nat.add_assoc]

theorem indexAddrV_run {t : TypeId} {xv iv tv : TV A} {vc : List Prop} {u v : Value} (h : indexAddrV P t xv iv = some (tv, vc)) (hvc : ∀ p ∈ vc, p) (hx : xv.Is β u) (hi : iv.Is β v) :
    ∃ z, (Instr.indexAt t u v).run P w = .ok z w ∧ tv.Is β z := by
  unfold indexAddrV at h
  split at h
  · rename_i lit z hz
    obtain ⟨kk, rfl⟩ := numOf_is hi hz
    split at h
    · rename_i len e i off hu
      obtain ⟨b, hb, ex⟩ := LIs.single (hx : LIs β _ [u])
      simp at ex; subst ex
      split at h
      · rename_i sz hs
        split at h
        · split at h
          · rename_i k hk
            have hzk := natOf_eq hk
            subst hzk
            split at h
            · rename_i hlt
              simp at h; obtain ⟨rfl, rfl⟩ := h
              have h1 : (0 : Int) ≤ k ∧ (k : Int) < len := by omega
              exact ⟨.pointer (some ⟨b, off + k * sz, none⟩), by simp [Instr.indexAt, run_underlying hu, asIntOf, Instr.sureAddr, h1, run_sizeT hs, add_none, hlt], LIs.of_single ⟨b, hb, rfl⟩⟩
            · cases h
          · cases h
        · split at h
          · rename_i hs1
            simp at h; obtain ⟨rfl, rfl⟩ := h
            subst hs1
            have h1 := hvc (0 ≤ z ∧ z < len) (by simp)
            exact ⟨.pointer (some ⟨b, off + z.toNat, none⟩), by simp [Instr.indexAt, run_underlying hu, asIntOf, Instr.sureAddr, h1, run_sizeT hs, add_none], LIs.of_single ⟨by omega, b, hb, rfl⟩⟩
          · cases h
      · cases h
    · rename_i e i off len cap hu
      obtain ⟨b, hb, ex⟩ := LIs.single (hx : LIs β _ [u])
      simp at ex; subst ex
      split at h
      · rename_i sz hs
        split at h
        · split at h
          · rename_i k hk
            have hzk := natOf_eq hk
            subst hzk
            split at h
            · rename_i hlt
              simp at h; obtain ⟨rfl, rfl⟩ := h
              have h1 : (0 : Int) ≤ k ∧ (k : Int) < len := by omega
              exact ⟨.pointer (some ⟨b, off + k * sz, none⟩), by simp [Instr.indexAt, run_underlying hu, asIntOf, h1, run_sizeT hs, add_none, hlt], LIs.of_single ⟨b, hb, rfl⟩⟩
            · cases h
          · cases h
        · split at h
          · rename_i hs1
            simp at h; obtain ⟨rfl, rfl⟩ := h
            subst hs1
            have h1 := hvc (0 ≤ z ∧ z < len) (by simp)
            exact ⟨.pointer (some ⟨b, off + z.toNat, none⟩), by simp [Instr.indexAt, run_underlying hu, asIntOf, h1, run_sizeT hs, add_none], LIs.of_single ⟨by omega, b, hb, rfl⟩⟩
          · cases h
      · cases h
    · rename_i e a f i len cap hu
      split at h
      · rename_i sz hs
        simp at h; obtain ⟨rfl, rfl⟩ := h
        have h1 := hvc (0 ≤ z ∧ z < len) (by simp)
        have ex := LIs.single (hx : LIs β _ [u])
        cases a with
        | none => obtain ⟨h2, _, _⟩ := ex; omega
        | some b =>
          obtain ⟨p, hp, hnc, e1⟩ := ex
          simp at e1; subst e1
          have := hp (by omega)
          subst this
          exact ⟨.pointer (some (b.add (timesN z.toNat sz + i))), by simp [Instr.indexAt, run_underlying hu, asIntOf, h1, run_sizeT hs, Addr.add_add, timesN_eq, Nat.add_comm], LIs.of_single ⟨b, rfl, rfl⟩⟩
      · cases h
    · rename_i e f i len sz' hu
      split at h
      · rename_i sz hs
        split at h
        · rename_i he
          simp at h; obtain ⟨rfl, rfl⟩ := h
          subst he
          have h1 := hvc (0 ≤ z ∧ z < len) (by simp)
          have ex : knownIs β f i len sz [u] := LIs.single (hx : LIs β _ [u])
          rcases ex with ⟨h2, _⟩ | ⟨p, cp, e1, hnc, hk⟩
          · omega
          · simp at e1; subst e1
            refine ⟨.pointer (some (p.add (timesN z.toNat sz))), by simp [Instr.indexAt, run_underlying hu, asIntOf, h1, run_sizeT hs, timesN_eq], LIs.of_single ⟨_, rfl, fun j hj => ?_⟩⟩
            have hlt : z.toNat * sz + j < len * sz := by
              have : (z.toNat + 1) * sz ≤ len * sz := Nat.mul_le_mul_right _ (by omega)
              rw [Nat.succ_mul] at this
              omega
            obtain ⟨v, k1, k2⟩ := hk (timesN z.toNat sz + j) (by rw [timesN_eq]; exact hlt)
            refine ⟨v, by rw [Addr.add_add]; exact k1, ?_⟩
            rw [show timesN z.toNat sz + i + j = i + (timesN z.toNat sz + j) by omega]
            exact k2
        · cases h
      · cases h
    · cases h
  · cases h

theorem rowGet_is {l : List (SV A)} {vs : List Value} {n z : Nat} {y : SV A} (h : rowGet l n z = some y) (hl : LIs β l vs) (hz : z < n) : ∃ v, vs[z]? = some v ∧ y.Is β [v] := by
  unfold rowGet at h
  split at h
  · rename_i row hr
    split at h
    · rename_i hs
      split at h
      · rename_i a ha
        simp at h; subst h
        obtain ⟨v, h1, h2⟩ := Atom.get_ok ha (by omega)
        rw [rowA_is hl hr]
        exact ⟨v, h1, h2.symm⟩
      · cases h
    · cases h
  · cases h

theorem run_partAt {e : TypeId} {vs : List Value} {i : Nat} {v : Value} (ha : isAggB P e = some false) (hv : vs[i]? = some v) : (part e vs.toArray i).run P w = .ok v w := by
  unfold part
  rw [Sem.run_bind, run_isAgg ha]
  simp [hv]

theorem indexV_run {t : TypeId} {xv iv tv : TV A} {vc : List Prop} {u v : Value} (h : indexV P t xv iv = some (tv, vc)) (hvc : ∀ p ∈ vc, p) (hx : xv.Is β u) (hi : iv.Is β v) :
    ∃ z, (Instr.index t u v).run P w = .ok z w ∧ tv.Is β z := by
  unfold indexV at h
  split at h
  · rename_i lit z hz
    obtain ⟨kk, rfl⟩ := numOf_is hi hz
    split at h
    · rename_i len e l hu
      obtain ⟨vs, hvs, rfl⟩ := (hx : VIs β true l u)
      split at h
      · rename_i sz hs
        split at h
        · split at h
          · rename_i k hk
            have hzk := natOf_eq hk
            subst hzk
            split at h
            · rename_i hlt
              split at h
              · rename_i y hy
                simp at h; obtain ⟨rfl, rfl⟩ := h
                obtain ⟨x, hx1, hx2⟩ := run_partV (P := P) (w := w) hy hvs
                have h1 : (0 : Int) ≤ k ∧ (k : Int) < len := by omega
                exact ⟨x, by simp [Instr.index, run_underlying hu, asIntOf, h1, run_sizeT hs, hx1, hlt], hx2⟩
              · cases h
            · cases h
          · cases h
        · split at h
          · rename_i y ha hg
            split at h
            · rename_i hs1
              subst hs1
              simp at h; obtain ⟨rfl, rfl⟩ := h
              have h1 := hvc (0 ≤ z ∧ z < len) (by simp)
              obtain ⟨x, hx1, hx2⟩ := rowGet_is hg hvs (by omega)
              exact ⟨x, by simp [Instr.index, run_underlying hu, asIntOf, h1, run_sizeT hs, run_partAt ha hx1], LIs.of_single hx2⟩
            · cases h
          · cases h
      · cases h
    · rename_i s hu
      split at h
      · split at h
        · rename_i k hk
          have hzk := natOf_eq hk
          subst hzk
          split at h
          · rename_i b hb
            simp at h; obtain ⟨rfl, rfl⟩ := h
            have ex := LIs.single (hx : LIs β _ [u])
            obtain ⟨ex, _⟩ := ex
            simp at ex; subst ex
            rw [nth_eq] at hb
            have hb' : s[k]? = some b := by
              obtain ⟨hlt, hb⟩ := List.getElem?_eq_some_iff.1 hb
              have hlt' : k < s.size := by simpa using hlt
              rw [getElem?_pos s k hlt']
              congr 1
            exact ⟨.int .u8 b.toNat, by simp [Instr.index, run_underlying hu, asIntOf, hb'], LIs.of_single ⟨rfl, rfl⟩⟩
          · cases h
        · cases h
      · cases h
    · cases h
  · cases h

theorem extCells_is {old : Addr → Option Value} {b : Addr} {f : Nat → A} : ∀ (n i : Nat), (∀ j, j < n → ∃ v, old (b.add (i + j)) = some v ∧ Atom.cells (f (i + j)) = [v]) →
    ∃ vs, LIs β (extCells f i n) vs ∧ vs.length = n ∧ ∀ j v, vs[j]? = some v → old (b.add (i + j)) = some v
  | 0, i, _ => ⟨[], rfl, rfl, fun j v h => by simp at h⟩
  | n + 1, i, h => by
    obtain ⟨v, h1, h2⟩ := h 0 (by omega)
    obtain ⟨vs, k1, k2, k3⟩ := extCells_is n (i + 1) (fun j hj => by
      have := h (j + 1) (by omega)
      rw [show i + 1 + j = i + (j + 1) by omega]
      exact this)
    refine ⟨v :: vs, ⟨[v], vs, h2.symm, k1, rfl⟩, by simp [k2], fun j u hj => ?_⟩
    cases j with
    | zero => simp at hj; subst hj; exact h1
    | succ j =>
      have := k3 j u (by simpa using hj)
      rw [show i + 1 + j = i + (j + 1) by omega] at this
      exact this

theorem knownCells_is {b : Addr} {f : Nat → A} : ∀ (n i : Nat), (∀ j, j < n → ∃ v, β.kn (b.add j) v ∧ Atom.cells (f (i + j)) = [v]) →
    ∃ vs, LIs β (extCells f i n) vs ∧ vs.length = n ∧ ∀ (j : Nat) v, vs[j]? = some v → β.kn (b.add j) v
  | 0, i, _ => ⟨[], rfl, rfl, fun j v h => by simp at h⟩
  | n + 1, i, h => by
    obtain ⟨v, h1, h2⟩ := h 0 (by omega)
    obtain ⟨vs, k1, k2, k3⟩ := knownCells_is (b := b.add 1) n (i + 1) (fun j hj => by
      obtain ⟨u, g1, g2⟩ := h (j + 1) (by omega)
      refine ⟨u, ?_, ?_⟩
      · rw [Addr.add_add, Nat.add_comm 1 j]; exact g1
      · rw [show i + 1 + j = i + (j + 1) by omega]; exact g2)
    refine ⟨v :: vs, ⟨[v], vs, by rw [Nat.add_zero] at h2; exact h2.symm, k1, rfl⟩, by simp [k2], fun j u hj => ?_⟩
    cases j with
    | zero => simp at hj; subst hj; exact h1
    | succ j =>
      have := k3 j u (by simpa using hj)
      rw [Addr.add_add, Nat.add_comm 1 j] at this
      exact this

theorem loadV_run {c : Cfg A} {X : Nat → Prop} {W0 W : World} {m : Mem A} (hm : MRel c X W0 β m W) {t : TypeId} {xv tv : TV A} {vc : List Prop} {u : Value} (h : loadV c m t xv = some (tv, vc)) (hvc : ∀ p ∈ vc, p) (hx : xv.Is β u) :
    ∃ z, (Instr.loadAt t u).run c.P W = .ok z W ∧ tv.Is β z := by
  unfold loadV at h
  split at h
  · rename_i i off
    split at h
    · rename_i blk hb
      split at h
      · rename_i v hv
        simp at h; obtain ⟨rfl, rfl⟩ := h
        obtain ⟨b, hb1, e⟩ := LIs.single (hx : LIs β _ [u])
        simp at e; subst e
        obtain ⟨b', vs, fz, hb2, hvs, hheap, _⟩ := hm.mem' hb hb1
        have : b' = b := by rw [hb1] at hb2; exact (Option.some.inj hb2).symm
        subst this
        obtain ⟨x, hu1, hu2⟩ := run_loadPart (P := c.P) (w := W) hv hvs hheap
        exact ⟨x, by simp [Instr.loadAt, Instr.sureAddr, hu1], hu2⟩
      · cases h
    · cases h
  · rename_i i off n z
    split at h
    · rename_i blk hb
      split at h
      · rename_i l ha hs hc
        split at h
        · rename_i y hy
          simp at h; obtain ⟨rfl, rfl⟩ := h
          obtain ⟨hz, b, hb1, e⟩ := LIs.single (hx : LIs β _ [u])
          simp at e; subst e
          obtain ⟨b', vs, fz, hb2, hvs, hheap, _⟩ := hm.mem' hb hb1
          have : b' = b := by rw [hb1] at hb2; exact (Option.some.inj hb2).symm
          subst this
          obtain ⟨h1, h2⟩ := cut_is hvs hc
          obtain ⟨v, hv1, hv2⟩ := rowGet_is hy h1 hz
          rw [List.getElem?_take, if_pos hz, List.getElem?_drop] at hv1
          refine ⟨v, ?_, LIs.of_single hv2⟩
          simp only [Instr.loadAt, Instr.sureAddr, Sem.run_bind, Sem.run_pure, Result.andThen_ok]
          unfold loadVar
          rw [Sem.run_bind, run_isAgg ha]
          simp only [Result.andThen_ok, Bool.false_eq_true, if_false]
          rw [run_load, cell_of_row W b' (off + z) _ _ fz hheap]
          simp [hv1]
        · cases h
      · cases h
    · cases h
  · rename_i a f i
    obtain ⟨b, rfl, e⟩ := LIs.single (hx : LIs β _ [u])
    simp at e; subst e
    split at h
    · rename_i n ha hs
      simp at h; obtain ⟨rfl, rfl⟩ := h
      have h1 : Reads c.old (some b) f i n := hvc _ (by simp)
      obtain ⟨vs, k1, k2, k3⟩ := extCells_is (β := β) n i (h1 b rfl)
      refine ⟨.agg vs.toArray, ?_, ⟨vs, k1, rfl⟩⟩
      simp only [Instr.loadAt, Instr.sureAddr, Sem.run_bind, Sem.run_pure, Result.andThen_ok]
      unfold loadVar
      rw [Sem.run_bind, run_isAgg ha]
      simp only [Result.andThen_ok, if_true, Sem.run_bind, run_sizeT hs, Sem.run_pure]
      have := run_loadCells_list (P := c.P) W (b.add i) vs (fun j v hv => by
        rw [Addr.add_add]
        exact hm.cell (k3 j v hv))
      rw [k2] at this
      rw [this]
      rfl
    · rename_i ha hs
      simp at h; obtain ⟨rfl, rfl⟩ := h
      have h1 : Reads c.old (some b) f i 1 := hvc _ (by simp)
      obtain ⟨v, k1, k2⟩ := h1 b rfl 0 (by omega)
      refine ⟨v, ?_, LIs.of_single k2.symm⟩
      simp only [Instr.loadAt, Instr.sureAddr, Sem.run_bind, Sem.run_pure, Result.andThen_ok]
      unfold loadVar
      rw [Sem.run_bind, run_isAgg ha]
      simp only [Result.andThen_ok, Bool.false_eq_true, if_false]
      have hcell := hm.cell k1
      rw [Nat.add_zero] at hcell
      rw [run_load, hcell]
    · cases h
  · rename_i f i k
    obtain ⟨p, e, hk⟩ := LIs.single (hx : LIs β _ [u])
    simp at e; subst e
    split at h
    · rename_i n ha hs
      split at h
      · rename_i hnk
        simp at h; obtain ⟨rfl, rfl⟩ := h
        obtain ⟨vs, k1, k2, k3⟩ := knownCells_is (β := β) (b := p) (f := f) n i (fun j hj => hk j (by omega))
        refine ⟨.agg vs.toArray, ?_, ⟨vs, k1, rfl⟩⟩
        simp only [Instr.loadAt, Instr.sureAddr, Sem.run_bind, Sem.run_pure, Result.andThen_ok]
        unfold loadVar
        rw [Sem.run_bind, run_isAgg ha]
        simp only [Result.andThen_ok, if_true, Sem.run_bind, run_sizeT hs, Sem.run_pure]
        have := run_loadCells_list (P := c.P) W p vs (fun j v hv => (hm.kn _ _ (k3 j v hv)).1)
        rw [k2] at this
        rw [this]
        rfl
      · cases h
    · rename_i ha hs
      split at h
      · rename_i hnk
        simp at h; obtain ⟨rfl, rfl⟩ := h
        obtain ⟨v, k1, k2⟩ := hk 0 (by omega)
        refine ⟨v, ?_, LIs.of_single k2.symm⟩
        simp only [Instr.loadAt, Instr.sureAddr, Sem.run_bind, Sem.run_pure, Result.andThen_ok]
        unfold loadVar
        rw [Sem.run_bind, run_isAgg ha]
        simp only [Result.andThen_ok, Bool.false_eq_true, if_false]
        have hcell := (hm.kn _ _ k1).1
        have e0 : p.add 0 = p := by simp [Addr.add]
        rw [e0] at hcell
        rw [run_load, hcell]
      · cases h
    · cases h
  · cases h

theorem lenV_run {t : TypeId} {xv tv : TV A} {u : Value} (h : lenV P t xv = some tv) (hx : xv.Is β u) {ats : Array TypeId} {ty : TypeId} (hat : ats[0]? = some t) :
    ∃ z, (Builtin.len_ ats ty #[u]).run P w = .ok z w ∧ tv.Is β z := by
  unfold lenV at h
  split at h
  · rename_i e i off n cp hu
    simp at h; subst h
    obtain ⟨b, hb, ev⟩ := LIs.single (hx : LIs β _ [u])
    simp at ev; subst ev
    exact ⟨.int .i64 n, by simp [Builtin.len_, hat, run_underlying hu, goInt], LIs.of_single ⟨rfl, rfl⟩⟩
  · rename_i e n cp hu
    simp at h; subst h
    obtain ⟨ev, _⟩ := LIs.single (hx : LIs β _ [u])
    simp at ev; subst ev
    exact ⟨.int .i64 n, by simp [Builtin.len_, hat, run_underlying hu, goInt], LIs.of_single ⟨rfl, rfl⟩⟩
  · rename_i e a f i n cp hu
    simp at h; subst h
    obtain ⟨p, ev⟩ := (LIs.single (hx : LIs β _ [u])).extern
    simp at ev; subst ev
    exact ⟨.int .i64 n, by simp [Builtin.len_, hat, run_underlying hu, goInt], LIs.of_single rfl⟩
  · rename_i e f i n sz hu
    simp at h; subst h
    obtain ⟨p, cp, ev⟩ := (LIs.single (hx : LIs β _ [u]) : knownIs β f i n sz [u]).single
    simp at ev; subst ev
    exact ⟨.int .i64 n, by simp [Builtin.len_, hat, run_underlying hu, goInt], LIs.of_single rfl⟩
  · rename_i e i v off d n hu
    simp at h; subst h
    obtain ⟨p, cp, ev⟩ := (LIs.single (hx : LIs β _ [u]) : growsIs off d n [u] (β.gs i v)).single
    simp at ev; subst ev
    exact ⟨.int .i64 n, by simp [Builtin.len_, hat, run_underlying hu, goInt], LIs.of_single rfl⟩
  · rename_i s hu
    simp at h; subst h
    obtain ⟨ev, _⟩ := LIs.single (hx : LIs β _ [u])
    simp at ev; subst ev
    exact ⟨.int .i64 s.size, by simp [Builtin.len_, hat, run_underlying hu, goInt], LIs.of_single ⟨rfl, rfl⟩⟩
  · cases h
end bins

section fills
variable {P : Program} {w : World} {β : Adr}

theorem foldl_set : ∀ (vs : List Value) (k off : Nat) (cs : Array Value), off + k + vs.length ≤ cs.size →
    ((vs.zipIdx k).foldl (fun (cs : Array Value) (x : Value × Nat) => cs.setIfInBounds (off + x.2) x.1) cs).toList = cs.toList.take (off + k) ++ vs ++ cs.toList.drop (off + k + vs.length)
  | [], k, off, cs, _ => by simp
  | v :: vs, k, off, cs, h => by
    simp only [List.zipIdx_cons, List.foldl_cons]
    rw [foldl_set vs (k + 1) off _ (by simp at h ⊢; omega)]
    have hk : off + k < cs.toList.length := by simp at h ⊢; omega
    simp only [Array.toList_setIfInBounds]
    rw [show off + (k + 1) = (off + k) + 1 by omega]
    rw [List.take_succ_eq_append_getElem (by simpa using hk)]
    rw [List.take_set_of_le (Nat.le_refl _)]
    rw [List.drop_set_of_lt (by omega)]
    simp
    omega

theorem fillV_run {place : Nat → Option (Nat × Nat)} {c : Cfg A} {X : Nat → Prop} {W0 : World} {st : St A} {a : Act} (ht : TRel β st.t a) (hm : MRel c X W0 β st.m w) :
    ∀ {parts : List (Nat × Operand)} {cells l : List (SV A)} {vs : List Value}, fillV place c st cells parts = some l → LIs β cells vs →
      ∃ us, Instr.fill place vs.toArray (parts.map fun x => (x.1, a.eval x.2)) = some us.toArray ∧ LIs β l us
  | [], cells, l, vs, h, hv => by
    simp [fillV] at h; subst h
    exact ⟨vs, by simp [Instr.fill], hv⟩
  | (i, x) :: rest, cells, l, vs, h, hv => by
    simp only [fillV] at h
    split at h
    · rename_i off size tv hp hx
      split at h
      · rename_i x' hc
        split at h
        · rename_i hs
          split at h
          · rename_i cells' ho
            have hx' := cellsT_is (evO_is ht hm hx) hc
            have hlen := hx'.len
            obtain ⟨h1, h2⟩ := over_is hv hx' ho
            obtain ⟨us, hu1, hu2⟩ := fillV_run ht hm h h1
            refine ⟨us, ?_, hu2⟩
            rw [← hu1]
            simp only [List.map_cons, Instr.fill, hp]
            have hsz : (a.eval x).cells.size = size := by rw [← Array.length_toList, hlen, hs]
            rw [if_neg]
            · congr 1
              apply Array.toList_inj.1
              rw [← Array.foldl_toList, Array.toList_zipIdx]
              have := foldl_set (a.eval x).cells.toList 0 off vs.toArray (by simpa using h2)
              simpa using this
            · have h3 : ¬ (off + (a.eval x).cells.size > vs.toArray.size) := by simp at h2 ⊢; omega
              simp [hsz] at h3 ⊢
              omega
          · cases h
        · cases h
      · cases h
    · cases h

theorem placesOf_eq {fs : List Field} {ps : List (Nat × Nat)} (h : placesOf P fs = some ps) :
    ∀ w : World, (fs.mapM (fun f => do pure (f.offset, ← sizeOf f.type) : Field → Sem (Nat × Nat))).run P w = .ok ps w := by
  induction fs generalizing ps with
  | nil => intro w; simp [placesOf] at h; subst h; simp
  | cons f r ih =>
    intro w
    simp only [placesOf] at h
    split at h
    · rename_i n l hn hl
      simp at h; subst h
      have ih' := ih hl w
      simp only [List.mapM_cons, Sem.run_bind, run_sizeT hn, Result.andThen_ok, Sem.run_pure]
      rw [ih']
      rfl
    · cases h

theorem bndO_run {c : Cfg A} {X : Nat → Prop} {W0 : World} {st : St A} {a : Act} (ht : TRel β st.t a) (hm : MRel c X W0 β st.m w) {y d k : Nat} {x : Operand} {code : BoundsCode}
    (h : bndO c st y d (some x) = some k) : (Instr.sliceBound (a.eval x) y code).run P w = .ok k w := by
  simp only [bndO] at h
  split at h
  · rename_i tv hx
    split at h
    · rename_i z hz
      split at h
      · rename_i k' hk
        split at h
        · rename_i hle
          simp at h; subst h
          obtain ⟨kk, e⟩ := litOf_is (evO_is ht hm hx) hz
          have := natOf_eq hk
          subst this
          have h1 : (0 : Int) ≤ k' ∧ (k' : Int) ≤ y := by omega
          simp only [Instr.sliceBound, e, asIntOf, Sem.run_bind, Sem.run_pure, Result.andThen_ok, h1, and_self, if_true, Int.toNat_natCast]
        · cases h
      · cases h
    · cases h
  · cases h

theorem bounds_run {c : Cfg A} {X : Nat → Prop} {W0 : World} {st : St A} {a : Act} (ht : TRel β st.t a) (hm : MRel c X W0 β st.m w) {sl : Bool} {len cap m h l : Nat} {lo hi mx : Option Operand}
    (hx : (mx.isSome && hi.isNone) = false) (h1 : bndO c st cap cap mx = some m) (h2 : bndO c st m len hi = some h) (h3 : bndO c st h 0 lo = some l) :
    (Instr.sliceBounds sl len cap (lo.map a.eval) (hi.map a.eval) (mx.map a.eval)).run P w = .ok (l, h, m) w := by
  have d0 : ∀ {y d k : Nat}, bndO c st y d none = some k → d = k := by intro y d k e; simpa [bndO] using e
  cases mx with
  | none =>
    have := d0 h1; subst this
    cases hi with
    | none =>
      have := d0 h2; subst this
      cases lo with
      | none => have := d0 h3; subst this; simp [Instr.sliceBounds]
      | some x => simp [Instr.sliceBounds, bndO_run (P := P) ht hm h3]
    | some y =>
      cases lo with
      | none => have := d0 h3; subst this; simp [Instr.sliceBounds, bndO_run (P := P) ht hm h2]
      | some x => simp [Instr.sliceBounds, bndO_run (P := P) ht hm h2, bndO_run (P := P) ht hm h3]
  | some z =>
    cases hi with
    | none => simp at hx
    | some y =>
      cases lo with
      | none => have := d0 h3; subst this; simp [Instr.sliceBounds, bndO_run (P := P) ht hm h1, bndO_run (P := P) ht hm h2]
      | some x => simp [Instr.sliceBounds, bndO_run (P := P) ht hm h1, bndO_run (P := P) ht hm h2, bndO_run (P := P) ht hm h3]

theorem capsOf_is : ∀ {l : List (TV A)} {cs : List (Nat × Nat)} {vs : List Value}, capsOf l = some cs → TsIs β l vs → capsIs β cs vs
  | [], cs, vs, h, e => by simp [capsOf] at h; subst h; exact e
  | t :: l, cs, vs, h, ⟨v, r, h1, h2, e⟩ => by
    subst e
    simp only [capsOf] at h
    split at h
    · rename_i ad l' ha hl
      simp at h; subst h
      obtain ⟨i, off⟩ := ad
      obtain ⟨b, hb, rfl⟩ := addrOf_is h1 ha
      exact ⟨b, r, hb, capsOf_is hl h2, rfl⟩
    · cases h
end fills

theorem sliceV_run {c : Cfg A} {X : Nat → Prop} {W0 W : World} {β : Adr} {st : St A} {a : Act} (ht : TRel β st.t a) (hm : MRel c X W0 β st.m W) {i off len cap : Nat} {e : TypeId} {lo hi mx : Option Operand} {tv : TV A} {vc : List Prop}
    (h : sliceV c st i off len cap e lo hi mx = some (tv, vc)) : ∃ l hh m sz, vc = [] ∧ tv = .val false [.s i (if m = l then off else off + l * sz) (hh - l) (m - l)] ∧ sizeT c.P e = some sz ∧
      ∀ sl, (Instr.sliceBounds sl len cap (lo.map a.eval) (hi.map a.eval) (mx.map a.eval)).run c.P W = .ok (l, hh, m) W := by
  unfold sliceV at h
  split at h
  · cases h
  · rename_i hx
    split at h
    · rename_i m sz h1 hs
      split at h
      · rename_i hh h2
        split at h
        · rename_i l h3
          simp at h
          obtain ⟨rfl, rfl⟩ := h
          exact ⟨l, hh, m, sz, rfl, rfl, hs, fun sl => bounds_run ht hm (by revert hx; cases (mx.isSome && hi.isNone) <;> simp) h1 h2 h3⟩
        · cases h
      · cases h
    · cases h

theorem bndE_run {c : Cfg A} {X : Nat → Prop} {W0 W : World} {β : Adr} {st : St A} {a : Act} (ht : TRel β st.t a) (hm : MRel c X W0 β st.m W) {y d k : Nat} {x : Operand} {code : BoundsCode} {vc : List Prop}
    (h : bndE c st y d (some x) = some (k, vc)) (hvc : ∀ p ∈ vc, p) : (Instr.sliceBound (a.eval x) y code).run c.P W = .ok k W ∧ k ≤ y := by
  simp only [bndE] at h
  split at h
  · rename_i tv hx
    split at h
    · rename_i l z hz
      simp at h; obtain ⟨rfl, rfl⟩ := h
      obtain ⟨kk, e⟩ := numOf_is (evO_is ht hm hx) hz
      have h1 : 0 ≤ z ∧ z ≤ y := hvc _ (by simp)
      exact ⟨by simp only [Instr.sliceBound, e, asIntOf, Sem.run_bind, Sem.run_pure, Result.andThen_ok, h1, and_self, if_true], by omega⟩
    · cases h
  · cases h

theorem sliceE_run {c : Cfg A} {X : Nat → Prop} {W0 W : World} {β : Adr} {st : St A} {a : Act} (ht : TRel β st.t a) (hm : MRel c X W0 β st.m W) {ad : Option Addr} {f : Nat → A} {i len cap : Nat} {e : TypeId} {lo hi mx : Option Operand} {tv : TV A} {vc : List Prop}
    (h : sliceE c st ad f i len cap e lo hi mx = some (tv, vc)) (hvc : ∀ p ∈ vc, p) : ∃ l hh m sz, tv = .val false [.e ad f (timesN l sz + i) (hh - l) (m - l)] ∧ sizeT c.P e = some sz ∧ m ≤ cap ∧ l ≤ hh ∧ (len ≤ cap → hh ≤ m) ∧
      ∀ sl, (Instr.sliceBounds sl len cap (lo.map a.eval) (hi.map a.eval) (mx.map a.eval)).run c.P W = .ok (l, hh, m) W := by
  unfold sliceE at h
  split at h
  · cases h
  · rename_i hx
    split at h
    · rename_i m v1 sz h1 hs
      split at h
      · rename_i hh v2 h2
        split at h
        · rename_i l v3 h3
          simp at h
          obtain ⟨rfl, rfl⟩ := h
          have hst : startN lo i l sz = timesN l sz + i := by
            cases lo with
            | none => simp [bndE] at h3; obtain ⟨rfl, _⟩ := h3; simp [startN, timesN_eq]
            | some _ => rfl
          rw [hst]
          have d0 : ∀ {y d k : Nat} {v : List Prop}, bndE c st y d none = some (k, v) → d = k := by intro y d k v e; simp [bndE] at e; exact e.1
          have c1 : ∀ p ∈ v1, p := fun p hp => hvc p (by simp [hp])
          have c2 : ∀ p ∈ v2, p := fun p hp => hvc p (by simp [hp])
          have c3 : ∀ p ∈ v3, p := fun p hp => hvc p (by simp [hp])
          refine ⟨l, hh, m, sz, rfl, hs, ?_⟩
          cases mx with
          | none =>
            have := d0 h1; subst this
            cases hi with
            | none =>
              have := d0 h2; subst this
              cases lo with
              | none => have := d0 h3; subst this; exact ⟨Nat.le_refl _, Nat.zero_le _, fun h => h, fun sl => by simp [Instr.sliceBounds]⟩
              | some x => exact ⟨Nat.le_refl _, (bndE_run (code := .sliceB) ht hm h3 c3).2, fun h => h, fun sl => by simp [Instr.sliceBounds, (bndE_run ht hm h3 c3).1]⟩
            | some y =>
              have e2 := (bndE_run (code := .sliceB) ht hm h2 c2).2
              cases lo with
              | none => have := d0 h3; subst this; exact ⟨Nat.le_refl _, Nat.zero_le _, fun _ => e2, fun sl => by simp [Instr.sliceBounds, (bndE_run ht hm h2 c2).1]⟩
              | some x => exact ⟨Nat.le_refl _, (bndE_run (code := .sliceB) ht hm h3 c3).2, fun _ => e2, fun sl => by simp [Instr.sliceBounds, (bndE_run ht hm h2 c2).1, (bndE_run ht hm h3 c3).1]⟩
          | some z =>
            have e1 := (bndE_run (code := .sliceB) ht hm h1 c1).2
            cases hi with
            | none => simp at hx
            | some y =>
              have e2 := (bndE_run (code := .sliceB) ht hm h2 c2).2
              cases lo with
              | none => have := d0 h3; subst this; exact ⟨e1, Nat.zero_le _, fun _ => e2, fun sl => by simp [Instr.sliceBounds, (bndE_run ht hm h1 c1).1, (bndE_run ht hm h2 c2).1]⟩
              | some x => exact ⟨e1, (bndE_run (code := .sliceB) ht hm h3 c3).2, fun _ => e2, fun sl => by simp [Instr.sliceBounds, (bndE_run ht hm h1 c1).1, (bndE_run ht hm h2 c2).1, (bndE_run ht hm h3 c3).1]⟩
        · cases h
      · cases h
    · cases h

theorem bndE_most {c : Cfg A} {X : Nat → Prop} {W0 W : World} {β : Adr} {st : St A} {a : Act} (ht : TRel β st.t a) (hm : MRel c X W0 β st.m W) {y y' d k : Nat} {x : Operand} {code : BoundsCode} {vc : List Prop}
    (h : bndE c st y d (some x) = some (k, vc)) (hvc : ∀ p ∈ vc, p) (hy : y ≤ y') : (Instr.sliceBound (a.eval x) y' code).run c.P W = .ok k W ∧ k ≤ y := by
  simp only [bndE] at h
  split at h
  · rename_i tv hx
    split at h
    · rename_i l z hz
      simp at h; obtain ⟨rfl, rfl⟩ := h
      obtain ⟨kk, e⟩ := numOf_is (evO_is ht hm hx) hz
      have h1 : 0 ≤ z ∧ z ≤ y := hvc _ (by simp)
      have h2 : 0 ≤ z ∧ z ≤ y' := by omega
      exact ⟨by simp only [Instr.sliceBound, e, asIntOf, Sem.run_bind, Sem.run_pure, Result.andThen_ok, h2, and_self, if_true], by omega⟩
    · cases h
  · cases h

/-- The bounds of a part that lies within the first len elements, wherever there is room for as many. -/
theorem boundsH_run {c : Cfg A} {X : Nat → Prop} {W0 W : World} {β : Adr} {st : St A} {a : Act} (ht : TRel β st.t a) (hm : MRel c X W0 β st.m W) {len cap l hh : Nat} {lo hi mx : Option Operand} {vc : List Prop}
    (h : boundsH c st len lo hi mx = some (l, hh, vc)) (hvc : ∀ p ∈ vc, p) (hcap : len ≤ cap) : l ≤ hh ∧ hh ≤ len ∧ (∀ i sz, startN lo i l sz = timesN l sz + i) ∧
      ∃ m, hh ≤ m ∧ m ≤ cap ∧ ∀ sl, (Instr.sliceBounds sl len cap (lo.map a.eval) (hi.map a.eval) (mx.map a.eval)).run c.P W = .ok (l, hh, m) W := by
  unfold boundsH at h
  split at h
  · cases h
  · rename_i hx
    split at h
    · rename_i m v1 h1
      split at h
      · rename_i hq v2 h2
        split at h
        · rename_i l' v3 h3
          simp at h
          obtain ⟨rfl, rfl, rfl⟩ := h
          have hst : ∀ i sz, startN lo i l' sz = timesN l' sz + i := by
            intro i sz
            cases lo with
            | none => simp [bndE] at h3; obtain ⟨rfl, _⟩ := h3; simp [startN, timesN_eq]
            | some _ => rfl
          have d0 : ∀ {y d k : Nat} {v : List Prop}, bndE c st y d none = some (k, v) → d = k := by intro y d k v e; simp [bndE] at e; exact e.1
          have c1 : ∀ p ∈ v1, p := fun p hp => hvc p (by simp [hp])
          have c2 : ∀ p ∈ v2, p := fun p hp => hvc p (by simp [hp])
          have c3 : ∀ p ∈ v3, p := fun p hp => hvc p (by simp [hp])
          cases mx with
          | none =>
            have := d0 h1; subst this
            cases hi with
            | none =>
              have := d0 h2; subst this
              cases lo with
              | none => have := d0 h3; subst this; exact ⟨Nat.zero_le _, Nat.le_refl _, hst, cap, hcap, Nat.le_refl _, fun sl => by simp [Instr.sliceBounds]⟩
              | some x => exact ⟨(bndE_run (code := .sliceB) ht hm h3 c3).2, Nat.le_refl _, hst, cap, hcap, Nat.le_refl _, fun sl => by simp [Instr.sliceBounds, (bndE_run ht hm h3 c3).1]⟩
            | some y =>
              have e2 := (bndE_run (code := .sliceB) ht hm h2 c2).2
              cases lo with
              | none => have := d0 h3; subst this; exact ⟨Nat.zero_le _, e2, hst, cap, by omega, Nat.le_refl _, fun sl => by simp [Instr.sliceBounds, (bndE_most ht hm h2 c2 hcap).1]⟩
              | some x => exact ⟨(bndE_run (code := .sliceB) ht hm h3 c3).2, e2, hst, cap, by omega, Nat.le_refl _, fun sl => by simp [Instr.sliceBounds, (bndE_most ht hm h2 c2 hcap).1, (bndE_run ht hm h3 c3).1]⟩
          | some z =>
            have e1 := (bndE_run (code := .sliceB) ht hm h1 c1).2
            cases hi with
            | none => simp at hx
            | some y =>
              have e2 := (bndE_run (code := .sliceB) ht hm h2 c2).2
              cases lo with
              | none => have := d0 h3; subst this; exact ⟨Nat.zero_le _, by omega, hst, m, e2, by omega, fun sl => by simp [Instr.sliceBounds, (bndE_most ht hm h1 c1 hcap).1, (bndE_run ht hm h2 c2).1]⟩
              | some x => exact ⟨(bndE_run (code := .sliceB) ht hm h3 c3).2, by omega, hst, m, e2, by omega, fun sl => by simp [Instr.sliceBounds, (bndE_most ht hm h1 c1 hcap).1, (bndE_run ht hm h2 c2).1, (bndE_run ht hm h3 c3).1]⟩
        · cases h
      · cases h
    · cases h

/-- Where nothing is called: an operation's value. -/
theorem opV_sound {c : Cfg A} (hc : CallsOK c) {X : Nat → Prop} {W0 W : World} {β : Adr} {st : St A} {a : Act} {o : Oper} {r : Option Nat} {n : Nat} {tv : TV A} {vc : List Prop}
    (ht : TRel β st.t a) (hm : MRel c X W0 β st.m W) (h : opV c st o.op = some (tv, vc)) (hvc : ∀ p ∈ vc, p) :
    Yld r n c.P o a W (fun v W' => ∃ K, Fresh W W' K ∧ tv.Is (β.know K) v ∧ Keeps W W') := by
  have key : ∀ {v : Value}, (∀ d, o.op ≠ .defer d) → (execOp a.eval o).run c.P W = .ok (.value v) W → tv.Is β v → Yld r n c.P o a W (fun v W' => ∃ K, Fresh W W' K ∧ tv.Is (β.know K) v ∧ Keeps W W') :=
    fun hd he hi => yld_value hd he ⟨fun _ _ => False, Fresh.none W W, hi.mono (Adr.le_know β _), Keeps.refl W⟩
  cases hop : o.op with
  | move x =>
    rw [hop] at h
    simp only [opV] at h
    split at h
    · rename_i v hv
      simp at h; obtain ⟨rfl, rfl⟩ := h
      exact key (v := a.eval x) (by simp [hop]) (by simp [execOp, hop]) (evO_is ht hm hv)
    · cases h
  | assign x =>
    rw [hop] at h
    simp only [opV] at h
    split at h
    · rename_i v hv
      simp at h; obtain ⟨rfl, rfl⟩ := h
      exact key (v := a.eval x) (by simp [hop]) (by simp [execOp, hop]) (evO_is ht hm hv)
    · cases h
  | pick q x y =>
    rw [hop] at h
    simp only [opV] at h
    split at h
    · rename_i qv hq
      split at h
      · rename_i b hb
        split at h
        · rename_i v hv
          simp at h; obtain ⟨rfl, rfl⟩ := h
          have e := boolOf_is (evO_is ht hm hq) hb
          refine key (v := if b then a.eval x else a.eval y) (by simp [hop]) (by simp [execOp, hop, asBool, e]) ?_
          have := evO_is ht hm hv
          cases b <;> simpa using this
        · cases h
      · cases h
    · cases h
  | fieldAddr t x f =>
    rw [hop] at h
    simp only [opV] at h
    split at h
    · rename_i xv hx
      split at h
      · rename_i i off fs ha hu
        split at h
        · rename_i fd hf
          split at h
          · rename_i sz hs
            simp at h; obtain ⟨rfl, rfl⟩ := h
            obtain ⟨b, hb, e⟩ := addrOf_is (evO_is ht hm hx) ha
            refine key (v := .pointer (some ⟨b, off + fd.offset, none⟩)) (by simp [hop]) ?_ (LIs.of_single ⟨b, hb, rfl⟩)
            simp [execOp, hop, Instr.fieldAt, run_underlying hu, hf, Instr.sureAddr, e, fieldPlace, run_sizeT hs, add_none]
          · cases h
        · cases h
      · cases h
    · cases h
  | field t x f =>
    rw [hop] at h
    simp only [opV] at h
    split at h
    · rename_i l fs hx hu
      split at h
      · rename_i fd hf
        split at h
        · rename_i v hv
          simp at h; obtain ⟨rfl, rfl⟩ := h
          obtain ⟨vs, hvs, e⟩ := (evO_is ht hm hx : VIs β true l (a.eval x))
          obtain ⟨u, hu1, hu2⟩ := run_partV (P := c.P) (w := W) hv hvs
          refine key (v := u) (by simp [hop]) ?_ hu2
          simp [execOp, hop, Instr.field, run_underlying hu, hf, e, asAgg, hu1]
        · cases h
      · cases h
    · cases h
  | indexAddr t x ix =>
    rw [hop] at h
    simp only [opV] at h
    split at h
    · rename_i xv iv hx hi
      obtain ⟨z, h1, h2⟩ := indexAddrV_run (P := c.P) (w := W) h hvc (evO_is ht hm hx) (evO_is ht hm hi)
      exact key (v := z) (by simp [hop]) (by simp [execOp, hop, h1]) h2
    · cases h
  | index t x ix =>
    rw [hop] at h
    simp only [opV] at h
    split at h
    · rename_i xv iv hx hi
      obtain ⟨z, h1, h2⟩ := indexV_run (P := c.P) (w := W) h hvc (evO_is ht hm hx) (evO_is ht hm hi)
      exact key (v := z) (by simp [hop]) (by simp [execOp, hop, h1]) h2
    · cases h
  | load t x =>
    rw [hop] at h
    simp only [opV] at h
    split at h
    · rename_i xv hx
      obtain ⟨z, h1, h2⟩ := loadV_run hm h hvc (evO_is ht hm hx)
      exact key (v := z) (by simp [hop]) (by simp [execOp, hop, h1]) h2
    · cases h
  | extract x i =>
    rw [hop] at h
    simp only [opV] at h
    split at h
    · rename_i l hx
      split at h
      · rename_i g cs hn
        simp at h; obtain ⟨rfl, rfl⟩ := h
        obtain ⟨vs, hvs, e⟩ := (evO_is ht hm hx : TV.Is β (.tup l) (a.eval x))
        obtain ⟨v, hv, hi⟩ := hvs.nth hn
        refine key (v := v) (by simp [hop]) ?_ hi
        simp [execOp, hop, Instr.extract, e, hv]
      · cases h
    · cases h
  | binOp op t x y yt =>
    rw [hop] at h
    simp only [opV] at h
    split at h
    · rename_i xv yv hx hy
      split at h
      · obtain ⟨z, h1, h2, h3⟩ := divV_run (P := c.P) (w := W) (t := t) (x := x) (y := y) h hvc (evO_is ht hm hx) (evO_is ht hm hy)
        refine key (v := z) (by simp [hop]) ?_ h3
        simp [execOp, hop, h1, h2]
      · split at h
        · rename_i v hv
          simp at h; obtain ⟨rfl, rfl⟩ := h
          obtain ⟨z, h1, h2, h3⟩ := binV_run (P := c.P) (w := W) (x := x) (y := y) hv (evO_is ht hm hx) (evO_is ht hm hy)
          refine key (v := z) (by simp [hop]) ?_ h3
          simp [execOp, hop, h1, h2]
        · cases h
    · cases h
  | unOp op t x =>
    rw [hop] at h
    simp only [opV] at h
    split at h
    · rename_i xv hx
      split at h
      · rename_i v hv
        simp at h; obtain ⟨rfl, rfl⟩ := h
        obtain ⟨z, h1, h2⟩ := unV_run (P := c.P) (w := W) hv (evO_is ht hm hx)
        refine key (v := z) (by simp [hop]) ?_ h2
        simp [execOp, hop, h1]
      · cases h
    · cases h
  | convert src dst x =>
    rw [hop] at h
    simp only [opV] at h
    split at h
    · rename_i s d k hx hs hd
      split at h
      · rename_i l k' a' hi
        simp at h; obtain ⟨rfl, rfl⟩ := h
        have e := intOfSV_is (LIs.single (evO_is ht hm hx : LIs β _ [a.eval x])) hi
        refine key (v := .int k (k.wrap a')) (by simp [hop]) ?_ (LIs.of_single (mkW_is ..))
        simp [execOp, hop, convert, run_underlying hs, run_underlying hd, e, Conv.intToInt]
      · cases h
    · cases h
  | build t parts =>
    rw [hop] at h
    simp only [opV] at h
    split at h
    · rename_i cells fs hz hu
      split at h
      · rename_i ps hp
        split at h
        · rename_i l hl
          simp at h; obtain ⟨rfl, rfl⟩ := h
          obtain ⟨z, hz1, hz2⟩ := run_zeroT (P := c.P) (w := W) (β := β) hz
          obtain ⟨us, hu1, hu2⟩ := fillV_run ht hm hl hz2
          refine key (v := .agg us.toArray) (by simp [hop]) ?_ ⟨us, hu2, rfl⟩
          have e1 : (fs.mapM (fun f => do pure (f.offset, ← sizeOf f.type) : Field → Sem (Nat × Nat))).run c.P W = .ok ps.toArray W := by
            rw [Array.mapM_eq_mapM_toList, Sem.run_map, placesOf_eq hp W]
            rfl
          have e2 : (fun i => ps.toArray[i]?) = fun i => nth ps i := by funext i; simp [nth_eq]
          have e3 : (parts.map fun x => (x.1, a.eval x.2)).toList = parts.toList.map fun x => (x.1, a.eval x.2) := by simp
          simp only [execOp, hop, Instr.build, Sem.run_bind, hz1, Result.andThen_ok, run_underlying hu, e1]
          rw [e2, e3]
          simp only [Array.toArray_toList] at hu1
          rw [hu1]
          rfl
        · cases h
      · cases h
    · rename_i cells len e hz hu
      split at h
      · rename_i sz hs
        split at h
        · rename_i l hl
          simp at h; obtain ⟨rfl, rfl⟩ := h
          obtain ⟨z, hz1, hz2⟩ := run_zeroT (P := c.P) (w := W) (β := β) hz
          obtain ⟨us, hu1, hu2⟩ := fillV_run ht hm hl hz2
          refine key (v := .agg us.toArray) (by simp [hop]) ?_ ⟨us, hu2, rfl⟩
          have e3 : (parts.map fun x => (x.1, a.eval x.2)).toList = parts.toList.map fun x => (x.1, a.eval x.2) := by simp
          simp only [execOp, hop, Instr.build, Sem.run_bind, hz1, Result.andThen_ok, run_underlying hu, run_sizeT hs]
          rw [e3]
          simp only [Array.toArray_toList] at hu1
          rw [hu1]
          rfl
        · cases h
      · cases h
    · cases h
  | slice t x lo hi mx =>
    rw [hop] at h
    simp only [opV] at h
    split at h
    · rename_i i off len e hx hu
      obtain ⟨l, hh, m, sz, rfl, rfl, hs, hr⟩ := sliceV_run ht hm h
      obtain ⟨b, hb, ex⟩ := LIs.single (evO_is ht hm hx : LIs β _ [a.eval x])
      simp at ex
      refine key (v := .slice (some ⟨b, if m = l then off else off + l * sz, none⟩) (hh - l) (m - l)) (by simp [hop]) ?_ (LIs.of_single ⟨b, hb, rfl⟩)
      simp only [execOp, hop, Instr.sliceAt, Sem.run_bind, run_underlying hu, Result.andThen_ok, ex, Instr.sureAddr, Sem.run_pure, hr false, run_sizeT hs, add_none]
      split <;> simp_all
    · rename_i i off len cap e hx hu
      obtain ⟨l, hh, m, sz, rfl, rfl, hs, hr⟩ := sliceV_run ht hm h
      obtain ⟨b, hb, ex⟩ := LIs.single (evO_is ht hm hx : LIs β _ [a.eval x])
      simp at ex
      refine key (v := .slice (some ⟨b, if m = l then off else off + l * sz, none⟩) (hh - l) (m - l)) (by simp [hop]) ?_ (LIs.of_single ⟨b, hb, rfl⟩)
      simp only [execOp, hop, Instr.sliceAt, Instr.slice, Sem.run_bind, run_underlying hu, Result.andThen_ok, ex, Sem.run_pure, hr true, run_sizeT hs, Option.map_some, add_none]
      split <;> simp_all
    · rename_i a' f i len cap e hx hu
      obtain ⟨l, hh, m, sz, rfl, hs, hl1, hl2, hl3, hr⟩ := sliceE_run ht hm h hvc
      have ex := LIs.single (evO_is ht hm hx : LIs β _ [a.eval x])
      cases a' with
      | none =>
        obtain ⟨rfl, rfl, e1⟩ := ex
        simp at e1
        have hm0 : m = 0 := by omega
        have hh0 : hh = 0 := by have := hl3 (Nat.le_refl _); omega
        have hl0 : l = 0 := by omega
        subst hm0; subst hh0; subst hl0
        refine key (v := .slice none 0 0) (by simp [hop]) ?_ (LIs.of_single ⟨rfl, rfl, rfl⟩)
        simp only [execOp, hop, Instr.sliceAt, Instr.slice, Sem.run_bind, run_underlying hu, Result.andThen_ok, e1, Sem.run_pure, hr true, run_sizeT hs]
        simp
      | some b =>
        obtain ⟨p, hp, hnc, e1⟩ := ex
        simp at e1
        refine key (v := .slice (some (if m = l then p else p.add (l * sz))) (hh - l) (m - l)) (by simp [hop]) ?_ (LIs.of_single ⟨_, fun h0 => ?_, ?_, rfl⟩)
        · simp only [execOp, hop, Instr.sliceAt, Instr.slice, Sem.run_bind, run_underlying hu, Result.andThen_ok, e1, Sem.run_pure, hr true, run_sizeT hs, Option.map_some]
          split <;> simp_all
        · rw [if_neg (by omega), hp (by omega), Addr.add_add, timesN_eq, Nat.add_comm]
        · have := hl3 hnc
          omega
    · rename_i f i len sz' e hx hu
      split at h
      · rename_i sz l hh vc' hs hb
        split at h
        · rename_i he
          simp at h; obtain ⟨rfl, rfl⟩ := h
          subst he
          have ex : knownIs β f i len sz [a.eval x] := LIs.single (evO_is ht hm hx : LIs β _ [a.eval x])
          rcases ex with ⟨rfl, e1⟩ | ⟨p, cp, e1, hnc, hk⟩
          · simp at e1
            obtain ⟨k1, k2, k3, m, k4, k5, k6⟩ := boundsH_run (cap := 0) ht hm hb hvc (Nat.le_refl _)
            have hm0 : m = 0 := by omega
            have hh0 : hh = 0 := by omega
            have hl0 : l = 0 := by omega
            subst hm0; subst hh0; subst hl0
            refine key (v := .slice none 0 0) (by simp [hop]) ?_ (LIs.of_single (.inl ⟨rfl, rfl⟩))
            simp only [execOp, hop, Instr.sliceAt, Instr.slice, Sem.run_bind, run_underlying hu, Result.andThen_ok, e1, Sem.run_pure, k6 true, run_sizeT hs]
            simp
          · simp at e1
            obtain ⟨k1, k2, k3, m, k4, k5, k6⟩ := boundsH_run ht hm hb hvc hnc
            refine key (v := .slice (some (if m = l then p else p.add (l * sz))) (hh - l) (m - l)) (by simp [hop]) ?_ (LIs.of_single (.inr ⟨_, _, rfl, by omega, ?_⟩))
            · simp only [execOp, hop, Instr.sliceAt, Instr.slice, Sem.run_bind, run_underlying hu, Result.andThen_ok, e1, Sem.run_pure, k6 true, run_sizeT hs, Option.map_some]
              split <;> simp_all
            · rw [k3]
              intro j hj
              have hml : ¬ m = l := by
                intro e0
                have : hh - l = 0 := by omega
                rw [this] at hj
                simp at hj
              rw [if_neg hml]
              have e2 : (hh - l) * sz = hh * sz - l * sz := Nat.sub_mul _ _ _
              have e3 : hh * sz ≤ len * sz := Nat.mul_le_mul_right _ k2
              obtain ⟨v, g1, g2⟩ := hk (l * sz + j) (by omega)
              refine ⟨v, by rw [Addr.add_add]; exact g1, ?_⟩
              rw [timesN_eq, show l * sz + i + j = i + (l * sz + j) by omega]
              exact g2
        · cases h
      · cases h
    · cases h
  | makeFunc fn first captured =>
    rw [hop] at h
    cases fn with
    | func g =>
      simp only [opV] at h
      split at h
      · rename_i l hl
        split at h
        · rename_i cs hcs
          split at h
          · rename_i hf
            simp at h; obtain ⟨rfl, rfl⟩ := h
            have h1 := capsOf_is hcs (evL_is ht hm hl)
            refine key (v := .func (.func g) #[] (captured.toList.map a.eval).toArray) (by simp [hop]) ?_ (LIs.of_single ⟨_, h1, rfl⟩)
            have : first = #[] := by simpa using hf
            subst this
            have e : captured.map a.eval = (captured.toList.map a.eval).toArray := Array.toList_inj.1 (by simp)
            rw [← e]
            simp [execOp, hop, Instr.makeFunc]
          · cases h
        · cases h
      · cases h
    | _ => simp [opV] at h
  | call cl =>
    rw [hop] at h
    obtain ⟨callee, args, ats⟩ := cl
    cases callee with
    | value f =>
      cases f with
      | func g =>
        simp only [opV] at h
        split at h
        · rename_i l hl
          split at h
          · rename_i v vc' hcall
            simp at h; obtain ⟨rfl, rfl⟩ := h
            have hargs := evL_is ht hm hl
            have e : ∀ W, (execOp a.eval o).run c.P W = (callFunc g (args.toList.map a.eval).toArray).run c.P W := by
              intro W
              have e : args.map a.eval = (args.toList.map a.eval).toArray := Array.toList_inj.1 (by simp)
              rw [← e]
              simp [execOp, hop, resolve, Deferred.ofValue, Act.eval, invoke]
            rcases hc g l st.m v none vc' hcall hvc X W0 W β _ hm hargs with ⟨u, h1, h2⟩ | ⟨h1, h2⟩
            · exact yld_value (by simp [hop]) (by rw [e]; exact h1) h2
            · exact yld_enter (by simp [hop]) (by rw [e]; exact h1) h2
          · cases h
        · cases h
      | _ => simp [opV] at h
    | builtin b =>
      cases b with
      | len =>
        simp only [opV] at h
        split at h
        · rename_i xv t hl hat
          split at h
          · rename_i v' hv
            simp at h; obtain ⟨rfl, rfl⟩ := h
            obtain ⟨v, r', h1, h2, h3⟩ := evL_is ht hm hl
            obtain rfl : r' = [] := h2
            obtain ⟨z, k1, k2⟩ := lenV_run (P := c.P) (w := W) (ty := o.type) hv h1 hat
            have hargs : args.map a.eval = #[v] := by
              apply Array.toList_inj.1; simpa using h3
            refine key (v := z) (by simp [hop]) ?_ k2
            simp [execOp, hop, resolve, invoke, builtin, hargs, k1]
          · cases h
        · cases h
      | max =>
        simp only [opV] at h
        split at h
        · rename_i l hl
          split at h
          · rename_i v hv
            simp at h; obtain ⟨rfl, rfl⟩ := h
            obtain ⟨z, h1, h2⟩ := extV_run (P := c.P) (w := W) hv (evL_is ht hm hl) ats ats o.type
            refine key (v := z) (by simp [hop]) ?_ h2
            have e : args.map a.eval = (args.toList.map a.eval).toArray := Array.toList_inj.1 (by simp)
            rw [← e] at h1
            simp [execOp, hop, resolve, invoke, builtin, h1]
          · cases h
        · cases h
      | min =>
        simp only [opV] at h
        split at h
        · rename_i l hl
          split at h
          · rename_i v hv
            simp at h; obtain ⟨rfl, rfl⟩ := h
            obtain ⟨z, h1, h2⟩ := extV_run (P := c.P) (w := W) hv (evL_is ht hm hl) ats ats o.type
            refine key (v := z) (by simp [hop]) ?_ h2
            have e : args.map a.eval = (args.toList.map a.eval).toArray := Array.toList_inj.1 (by simp)
            rw [← e] at h1
            simp [execOp, hop, resolve, invoke, builtin, h1]
          · cases h
        · cases h
      | _ => simp [opV] at h
    | invoke r m => simp [opV] at h
  | _ => rw [hop] at h; simp [opV] at h

end
end Go.Sh

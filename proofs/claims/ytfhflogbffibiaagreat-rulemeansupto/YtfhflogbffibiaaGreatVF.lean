/-
  Operations that only yield, continued: comparisons and sums, struct values, closures, max and min.
-/
import Derived.Test.YtfhflogbffibiaaGreatVD
import Derived.Laws.StructEq
namespace Go.Proofs.YtfhflogbffibiaaGreat
open Go
set_option linter.unusedSimpArgs false
set_option linter.unusedVariables false


/-- Fields that are whole numbers, one after the other. -/
def plainFields (P : Program) : Nat → List Field → Bool
  | _, [] => true
  | i, f :: fs => f.name != "_" && f.offset == i && (match P.underlying f.type with | some (.int .i64) => true | _ => false) && plainFields P (i + 1) fs

/-- May values of the type be compared by the abstract comparison? -/
def eqTy (P : Program) (t : TypeId) (m : Nat) : Bool :=
  match P.underlying t with
  | some (.int _) => m == 0
  | some .bool => m == 100
  | some .string => m == 0
  | some (.pointer _) => m == 101
  | some (.struct fs) => fs.size == m && decide (m < 100) && !P.stoodInHeld t && !P.eqGuardType P.depth t && plainFields P 0 fs.toList
  | _ => false

def isEq : BinOp → Bool
  | .eql | .neq => true
  | _ => false

def fitParts (P : Program) (fs : Array Field) : List (Nat × Operand) → List (Nat × Nat × LA) → Bool
  | [], [] => true
  | (i, x) :: r, (o, n, l) :: q => (match fs[i]? with | some f => f.offset == o && sizeIs P f.type n | none => false) && fitA x l && fitParts P fs r q
  | _, _ => false

def fitElems (i : Nat) : List (Nat × Operand) → List LA → Bool
  | [], [] => true
  | (j, x) :: r, l :: q => j == i && fitA x l && fitElems (i + 1) r q
  | _, _ => false

def zeroIs (P : Program) (t : TypeId) (zs : List AV) : Bool := match P.info? t with
  | some i => match i.zero with
    | some z => constsOk z.cells.toList zs
    | none => false
  | none => false


section
variable {P : Program} {n : Nat} {F : Nat → Prop} {Γ0 : RO} {w0 : World} {Γ : RO} {s : St} {a : Act} {w : World}

theorem plainFields_run : ∀ (fs : List Field) (i : Nat) (xs ys : Array Value) (cs ds : List AV) (r : Bool) (d : Nat), plainFields P i fs = true → eqInts (cs.drop i) (ds.drop i) = some r → cs.length = i + fs.length → ds.length = i + fs.length →
    xs.size = cs.length → ys.size = ds.length → (∀ (j : Nat) c v, cs[j]? = some c → xs[j]? = some v → Rep Γ c v) → (∀ (j : Nat) c v, ds[j]? = some c → ys[j]? = some v → Rep Γ c v) →
    (Op.eqFields (d + 1) xs ys fs).run P w = .ok r w
  | [], i, xs, ys, cs, ds, r, d, _, he, h1, h2, _, _, _, _ => by
    rw [List.drop_eq_nil_of_le (by simp at h1; omega), List.drop_eq_nil_of_le (by simp at h2; omega)] at he
    simp [eqInts] at he
    simp [Op.eqFields, he]
  | f :: fs, i, xs, ys, cs, ds, r, d, hp, he, h1, h2, h3, h4, h5, h6 => by
    simp only [plainFields, Bool.and_eq_true, bne_iff_ne, ne_eq, beq_iff_eq] at hp
    obtain ⟨⟨⟨hn, ho⟩, hk⟩, hr⟩ := hp
    have hu : P.underlying f.type = some (.int .i64) := by
      split at hk
      · assumption
      · cases hk
    have l1 : i < cs.length := by simp at h1; omega
    have l2 : i < ds.length := by simp at h2; omega
    rw [List.drop_eq_getElem_cons l1, List.drop_eq_getElem_cons l2] at he
    have g1 := h5 i _ xs[i] (List.getElem?_eq_getElem l1) (by simp [h3, l1])
    have g2 := h6 i _ ys[i] (List.getElem?_eq_getElem l2) (by simp [h4, l2])
    generalize cs[i] = c at he g1
    generalize ds[i] = d' at he g2
    cases c <;> try (simp [eqInts] at he; done)
    cases d' <;> try (simp [eqInts] at he; done)
    rename_i k m k' m'
    cases k <;> try (simp [eqInts] at he; done)
    cases k' <;> try (simp [eqInts] at he; done)
    simp only [eqInts] at he
    cases hq : eqInts (cs.drop (i + 1)) (ds.drop (i + 1)) with
    | none => rw [hq] at he; cases he
    | some q =>
      rw [hq] at he
      simp at he
      have ih := plainFields_run fs (i + 1) xs ys cs ds q d hr hq (by simp at h1; omega) (by simp at h2; omega) h3 h4 h5 h6
      have p1 : (part f.type xs i).run P w = .ok (.int .i64 m) w := by
        have : xs[i]? = some (.int .i64 m) := by rw [Array.getElem?_eq_getElem (by omega), g1.int_inv]
        simp [part, isAgg, run_underlying hu, this]
      have p2 : (part f.type ys i).run P w = .ok (.int .i64 m') w := by
        have : ys[i]? = some (.int .i64 m') := by rw [Array.getElem?_eq_getElem (by omega), g2.int_inv]
        simp [part, isAgg, run_underlying hu, this]
      simp only [Op.eqFields, hn, ne_eq, not_false_eq_true, if_true, ho, Sem.run_bind, p1, p2, Result.andThen_ok, run_equalIn_int w d f.type .i64 .i64 m m' hu]
      rw [← he]
      cases hmm : (m == m') <;> simp [ih]

theorem eqInts_length : ∀ {cs ds : List AV} {r : Bool}, eqInts cs ds = some r → cs.length = ds.length
  | [], [], _, _ => rfl
  | .int .i64 _ :: cs, .int .i64 _ :: ds, r, h => by
    simp only [eqInts] at h
    cases hq : eqInts cs ds with
    | none => rw [hq] at h; cases h
    | some q => simp [eqInts_length hq]
  | [], _ :: _, _, h => by simp [eqInts] at h
  | c :: cs, [], _, h => by cases c <;> (try rename_i k _; cases k) <;> simp [eqInts] at h

/-- Structs of whole numbers compared. -/
theorem run_equal_struct {t : TypeId} {fs : Array Field} {xs ys : Array Value} {cs ds : List AV} {r : Bool} (hu : P.underlying t = some (.struct fs)) (hp : P.stoodInHeld t = false) (hf : plainFields P 0 fs.toList = true)
    (hn : fs.size = cs.length) (he : eqInts cs ds = some r) (hx : Rep Γ (.agg cs) (.agg xs)) (hy : Rep Γ (.agg ds) (.agg ys)) : (Op.equal t (.agg xs) (.agg ys)).run P w = .ok r w := by
  obtain ⟨vs, e1, r1, r2, _⟩ := CellsRep.of_agg hx
  obtain ⟨us, e2, q1, q2, _⟩ := CellsRep.of_agg hy
  simp at e1 e2; subst e1; subst e2
  have hfo : P.fieldsOf t = fs := by simp [Program.fieldsOf, hu]
  have hl := eqInts_length he
  rw [Op.equal, Op.maxDepth, run_equalIn_struct w 9999 t _ _ (by rw [hfo]; exact hu) hp, hfo]
  exact plainFields_run (Γ := Γ) fs.toList 0 _ _ cs ds r 9998 hf (by simpa using he) (by simp [hn]) (by simp [hn, hl]) (by simpa using r1) (by simpa using q1) (by simpa using r2) (by simpa using q2)

theorem intBin_run {op : BinOp} {k : IntKind} {x y : Int} {z : AV} (h : intBin op k x y = some z) (t : TypeId) (Γ : RO) (w : World) : ∃ v, (binOp op t (.int k x) (.int k y)).run P w = .ok v w ∧ Rep Γ z v := by
  cases op <;> simp only [intBin, reduceCtorEq] at h
  case add => cases h; exact ⟨_, by simp only [binOp, Op.intArith, ne_eq, not_true_eq_false, if_false]; rfl, .int _ _⟩
  case sub => cases h; exact ⟨_, by simp only [binOp, Op.intArith, ne_eq, not_true_eq_false, if_false]; rfl, .int _ _⟩
  case mul => cases h; exact ⟨_, by simp only [binOp, Op.intArith, ne_eq, not_true_eq_false, if_false]; rfl, .int _ _⟩
  case quo =>
    split at h
    · cases h
    · rename_i hb; cases h; exact ⟨_, by simp only [binOp, Op.intDiv, ne_eq, not_true_eq_false, if_false, hb]; rfl, .int _ _⟩
  case rem =>
    split at h
    · cases h
    · rename_i hb; cases h; exact ⟨_, by simp only [binOp, Op.intDiv, ne_eq, not_true_eq_false, if_false, hb]; rfl, .int _ _⟩
  case and => cases h; exact ⟨_, by simp only [binOp, Op.intBits, ne_eq, not_true_eq_false, if_false]; rfl, .int _ _⟩
  case or => cases h; exact ⟨_, by simp only [binOp, Op.intBits, ne_eq, not_true_eq_false, if_false]; rfl, .int _ _⟩
  case xor => cases h; exact ⟨_, by simp only [binOp, Op.intBits, ne_eq, not_true_eq_false, if_false]; rfl, .int _ _⟩
  case andNot => cases h; exact ⟨_, by simp only [binOp, Op.intBits, ne_eq, not_true_eq_false, if_false]; rfl, .int _ _⟩
  all_goals (cases h; exact ⟨_, by simp only [binOp, Op.intCmp, ne_eq, not_true_eq_false, if_false]; rfl, .bool _⟩)

theorem eqGuard_flat {op : BinOp} {t : TypeId} {x y : Operand} {u v : Value} (h : (∀ cs, u ≠ .agg cs) ∧ u ≠ .nilIface) (w : World) : (eqGuard op t x y u v).run P w = .ok () w := by
  unfold eqGuard
  cases op <;> simp only [Sem.run_pure, if_true, Bool.false_eq_true, if_false, Bool.not_true, Bool.not_false] <;> (try rfl)
  all_goals
    split
    · exact absurd rfl h.2
    · exact absurd rfl (h.1 _)
    · rfl

theorem run_equal_ptr {t e : TypeId} (hu : P.underlying t = some (.pointer e)) (p : Option Addr) : (Op.equal t (.pointer p) (.pointer none)).run P w = .ok p.isNone w := by
  show (Op.equalIn (9999 + 1) t _ _).run P w = _
  generalize 9999 = d
  cases p <;> simp [Op.equalIn, run_underlying hu]

theorem ptrTy {t : TypeId} (h : eqTy P t 101 = true) : ∃ e, P.underlying t = some (.pointer e) := by
  unfold eqTy at h
  split at h <;> first
    | (rename_i hu; exact ⟨_, hu⟩)
    | (simp at h; done)
    | (cases h; done)

theorem yields_bin (hc : Conc n F Γ0 w0 Γ s a w) {o : Oper} {op : BinOp} {m : Nat} {t t' : TypeId} {x y : LA} {x' y' : Operand} (ho : o.op = .binOp op t x' y' t') (h1 : fitA x' x = true) (h2 : fitA y' y = true)
    {z : AV} (ht : isEq op = true → eqTy P t m = true) (hz : binV op m (x.ev s.fr) (y.ev s.fr) = some z) : Yields P Γ a w o z := by
  have run : ∀ v, (eqGuard op t x' y' (a.eval x') (a.eval y')).run P w = .ok () w → (binOp op t (a.eval x') (a.eval y')).run P w = .ok v w → Rep Γ z v → Yields P Γ a w o z := fun v hg hv hr => by
    refine ⟨v, ?_, hr⟩
    simp only [execOp, ho, Sem.run_bind, hg, hv, Result.andThen_ok, Sem.run_pure]
  have e1 := fun (_ : True) => @ev_rep n F Γ0 w0 Γ s a w hc x' x h1
  have e2 := fun (_ : True) => @ev_rep n F Γ0 w0 Γ s a w hc y' y h2
  unfold binV at hz
  split at hz
  · rename_i k u k' u' hx hy
    rw [hx] at e1; rw [hy] at e2
    have g1 := (e1 trivial).int_inv; have g2 := (e2 trivial).int_inv
    have hg : (eqGuard op t x' y' (a.eval x') (a.eval y')).run P w = .ok () w := eqGuard_flat ⟨fun cs => by simp [g1], by simp [g1]⟩ w
    split at hz
    · split at hz
      · cases hz
      · rename_i hb; cases hz; exact run _ hg (by simp only [g1, g2, binOp, Op.shift, hb, if_false]; rfl) (.int _ _)
    · split at hz
      · cases hz
      · rename_i hb; cases hz; exact run _ hg (by simp only [g1, g2, binOp, Op.shift, hb, if_false]; rfl) (.int _ _)
    · split at hz
      · rename_i hk
        subst hk
        obtain ⟨v, r1, r2⟩ := intBin_run (P := P) hz t Γ w
        exact run v hg (by rw [g1, g2]; exact r1) r2
      · cases hz
  · rename_i b c hx hy
    rw [hx] at e1; rw [hy] at e2
    have g1 := (e1 trivial).bool_inv; have g2 := (e2 trivial).bool_inv
    have hg : (eqGuard op t x' y' (a.eval x') (a.eval y')).run P w = .ok () w := eqGuard_flat ⟨fun cs => by simp [g1], by simp [g1]⟩ w
    have hu : isEq op = true → m = 100 → (Op.equal t (.bool b) (.bool c)).run P w = .ok (b == c) w := fun h h' => by
      have := ht h
      unfold eqTy at this
      subst h'
      split at this <;> first
        | (rename_i hu; exact run_equalIn_bool' w 9999 t b c hu)
        | (simp at this; done)
        | (cases this; done)
    split at hz
    · split at hz
      · rename_i hm; cases hz; exact run (.bool _) hg (by simp [g1, g2, binOp, hu rfl hm]) (.bool _)
      · cases hz
    · split at hz
      · rename_i hm; cases hz; exact run (.bool _) hg (by simp [g1, g2, binOp, hu rfl hm]) (.bool _)
      · cases hz
    · cases hz
  · rename_i b c hx hy
    rw [hx] at e1; rw [hy] at e2
    have g1 := (e1 trivial).str_inv; have g2 := (e2 trivial).str_inv
    have hg : (eqGuard op t x' y' (a.eval x') (a.eval y')).run P w = .ok () w := eqGuard_flat ⟨fun cs => by simp [g1], by simp [g1]⟩ w
    split at hz
    · cases hz; exact run (.bool _) hg (by simp [g1, g2, binOp, Op.stringOp]) (.bool _)
    · cases hz; exact run (.bool _) hg (by simp [g1, g2, binOp, Op.stringOp]) (.bool _)
    · cases hz
  · rename_i cs ds hx hy
    rw [hx] at e1; rw [hy] at e2
    obtain ⟨vs, g1, _⟩ := CellsRep.of_agg (e1 trivial)
    obtain ⟨us, g2, _⟩ := CellsRep.of_agg (e2 trivial)
    have hu : isEq op = true → (cs.length = m ∧ 0 < m ∧ m < 100) → ∀ r, eqInts cs ds = some r → (eqGuard op t x' y' (a.eval x') (a.eval y')).run P w = .ok () w ∧ (Op.equal t (a.eval x') (a.eval y')).run P w = .ok r w := fun h hm r hr => by
      have := ht h
      unfold eqTy at this
      split at this
      case h_5 fs hfs =>
        simp only [Bool.and_eq_true, beq_iff_eq, decide_eq_true_eq, Bool.not_eq_true'] at this
        obtain ⟨⟨⟨⟨k1, k2⟩, k3⟩, k4⟩, k5⟩ := this
        refine ⟨?_, ?_⟩
        · rw [g1, g2]; unfold eqGuard
          cases op <;> simp [isEq] at h <;> simp [k4]
        · have h1' := e1 trivial; have h2' := e2 trivial
          rw [g1] at h1' ⊢; rw [g2] at h2' ⊢
          exact run_equal_struct hfs k3 k5 (by omega) hr h1' h2'
      all_goals first
        | (simp at this; omega)
        | (cases this; done)
    split at hz
    · split at hz
      · rename_i hm
        cases hq : eqInts cs ds with
        | none => rw [hq] at hz; cases hz
        | some r =>
          rw [hq] at hz; cases hz
          obtain ⟨q1, q2⟩ := hu rfl hm r hq
          exact run (.bool _) q1 (by rw [g1, g2] at q2 ⊢; simp [binOp, q2]) (.bool _)
      · cases hz
    · split at hz
      · rename_i hm
        cases hq : eqInts cs ds with
        | none => rw [hq] at hz; cases hz
        | some r =>
          rw [hq] at hz; cases hz
          obtain ⟨q1, q2⟩ := hu rfl hm r hq
          exact run (.bool _) q1 (by rw [g1, g2] at q2 ⊢; simp [binOp, q2]) (.bool _)
      · cases hz
    · cases hz
  · rename_i hx hy
    rw [hx] at e1; rw [hy] at e2
    have g1 := (e1 trivial).raw_inv; have g2 := (e2 trivial).raw_inv
    have hg : (eqGuard op t x' y' (a.eval x') (a.eval y')).run P w = .ok () w := eqGuard_flat ⟨fun cs => by simp [g1], by simp [g1]⟩ w
    split at hz
    · rename_i hm; obtain ⟨rfl, rfl⟩ := hm
      cases hz
      obtain ⟨e, hu⟩ := ptrTy (ht rfl)
      exact run (.bool _) hg (by rw [g1, g2]; simp [binOp, run_equal_ptr hu]) (.bool _)
    · cases hz
  · rename_i nm p hx hy
    rw [hx] at e1; rw [hy] at e2
    obtain ⟨b, c, g1, _⟩ := (e1 trivial).np_inv
    have g2 := (e2 trivial).raw_inv
    have hg : (eqGuard op t x' y' (a.eval x') (a.eval y')).run P w = .ok () w := eqGuard_flat ⟨fun cs => by simp [g1], by simp [g1]⟩ w
    split at hz
    · rename_i hm; obtain ⟨rfl, rfl⟩ := hm
      cases hz
      obtain ⟨e, hu⟩ := ptrTy (ht rfl)
      exact run (.bool _) hg (by rw [g1, g2]; simp [binOp, run_equal_ptr hu]) (.bool _)
    · cases hz
  · rename_i cs hx hy
    rw [hx] at e1; rw [hy] at e2
    obtain ⟨b, q, g1, _⟩ := (e1 trivial).rp_lies hc.base
    have g2 := (e2 trivial).raw_inv
    have hg : (eqGuard op t x' y' (a.eval x') (a.eval y')).run P w = .ok () w := eqGuard_flat ⟨fun cs => by simp [g1], by simp [g1]⟩ w
    split at hz
    · rename_i hm; obtain ⟨rfl, rfl⟩ := hm
      cases hz
      obtain ⟨e, hu⟩ := ptrTy (ht rfl)
      exact run (.bool _) hg (by rw [g1, g2]; simp [binOp, run_equal_ptr hu]) (.bool _)
    · cases hz
  · cases hz

theorem fitAs_rep (hc : Conc n F Γ0 w0 Γ s a w) : ∀ {xs : List Operand} {ls : List LA}, fitAs xs ls = true → xs.length = ls.length ∧ ∀ (i : Nat) x l, xs[i]? = some x → ls[i]? = some l → fitA x l = true
  | [], [], _ => ⟨rfl, fun i x l h => by simp at h⟩
  | x :: xs, l :: ls, h => by
    simp only [fitAs, Bool.and_eq_true] at h
    obtain ⟨e1, e2⟩ := fitAs_rep hc h.2
    refine ⟨by simp [e1], fun i y m hy hm => ?_⟩
    cases i with
    | zero => simp at hy hm; subst hy; subst hm; exact h.1
    | succ i => exact e2 i y m (by simpa using hy) (by simpa using hm)
  | [], _ :: _, h => by cases h
  | _ :: _, [], h => by cases h

theorem yields_mkf (hc : Conc n F Γ0 w0 Γ s a w) {o : Oper} {f : FuncId} {caps : List LA} {first captured : Array Operand} (ho : o.op = .makeFunc (.func f) first captured) (h1 : first.size = 0) (h2 : fitAs captured.toList caps = true) :
    Yields P Γ a w o (.fn f (caps.map (·.ev s.fr))) := by
  obtain ⟨e1, e2⟩ := fitAs_rep hc h2
  refine ⟨.func (.func f) #[] (captured.toList.map a.eval).toArray, ?_, ?_⟩
  · have hf : first = #[] := Array.eq_empty_of_size_eq_zero h1
    have hm : captured.map a.eval = (captured.toList.map a.eval).toArray := by apply Array.ext'; simp
    simp only [execOp, ho, hf, Array.map_empty, hm, Instr.makeFunc, Sem.run_bind, Sem.run_pure, Result.andThen_ok]
  · refine .fn _ _ _ (by simpa using e1) (fun i c u hi hu => ?_)
    simp only [List.getElem?_map, Option.map_eq_some_iff] at hi hu
    obtain ⟨l, hl, rfl⟩ := hi
    obtain ⟨x, hx, rfl⟩ := hu
    exact ev_rep hc (e2 i x l hx hl)

def wrVals (cs : List Value) (o : Nat) (vs : List Value) : List Value := cs.take o ++ vs ++ cs.drop (o + vs.length)

theorem CellsRep.wr {cs vs : List AV} {us ws : List Value} (h : CellsRep Γ cs us) (g : CellsRep Γ vs ws) (o : Nat) : CellsRep Γ (wrCells cs o vs) (wrVals us o ws) := by
  unfold wrCells wrVals
  rw [g.1]
  exact ((h.take o).append g).append (h.drop _)

theorem foldl_set (ws : List Value) : ∀ (us : Array Value) (o k : Nat), o + k + ws.length ≤ us.size →
    (ws.zipIdx k).foldl (fun cs (c, j) => cs.setIfInBounds (o + j) c) us = (wrVals us.toList (o + k) ws).toArray := by
  induction ws with
  | nil => intro us o k h; apply Array.ext'; simp [wrVals]
  | cons v ws ih =>
    intro us o k h
    simp only [List.length_cons] at h
    rw [List.zipIdx_cons, List.foldl_cons, ih _ _ _ (by simp; omega)]
    apply Array.ext'
    simp only [wrVals, Array.toList_setIfInBounds, List.length_cons]
    have hk : o + k < us.toList.length := by simp; omega
    rw [List.take_set, List.drop_set]
    have e1 : o + (k + 1) = (o + k) + 1 := by omega
    have e2 : o + k + 1 + ws.length = o + k + (ws.length + 1) := by omega
    rw [e1, e2, List.take_succ_eq_append_getElem hk]
    rw [List.set_append_right _ _ (by simp; exact Nat.min_le_left _ _)]
    simp only [List.length_take]
    rw [show min (o + k) us.toList.length = o + k by omega]
    simp only [Nat.sub_self, List.set_cons_zero]
    rw [if_pos (by omega)]
    simp

theorem fill_sound (hc : Conc n F Γ0 w0 Γ s a w) {fs : Array Field} {pl : Nat → Option (Nat × Nat)} (hpl : ∀ (i : Nat) f, fs[i]? = some f → ∃ inf, P.info? f.type = some inf ∧ pl i = some (f.offset, inf.size)) :
    ∀ (xs : List (Nat × Operand)) (ps : List (Nat × Nat × LA)) (cs : List AV) (us : Array Value) (ds : List AV), fitParts P fs xs ps = true → fillV s.fr cs ps = some ds → CellsRep Γ cs us.toList →
    ∃ r, Instr.fill pl us (xs.map fun (i, x) => (i, a.eval x)) = some r ∧ CellsRep Γ ds r.toList
  | [], [], cs, us, ds, _, h, hr => by simp [fillV] at h; subst h; exact ⟨us, rfl, hr⟩
  | (i, x) :: xs, (o, m, l) :: ps, cs, us, ds, hf, h, hr => by
    simp only [fitParts, Bool.and_eq_true] at hf
    obtain ⟨⟨hf1, hf2⟩, hf3⟩ := hf
    split at hf1
    case h_2 => cases hf1
    rename_i f hfi
    simp only [Bool.and_eq_true, beq_iff_eq] at hf1
    obtain ⟨ho, hsz⟩ := hf1
    obtain ⟨inf, hin, hs⟩ := sizeIs_some hsz
    obtain ⟨inf', hin', hpl'⟩ := hpl i f hfi
    rw [hin] at hin'; cases hin'
    simp only [fillV] at h
    cases hv : (l.ev s.fr).cells with
    | none => rw [hv] at h; cases h
    | some vs =>
      rw [hv] at h
      simp only [Option.bind_some] at h
      split at h
      case isFalse => cases h
      rename_i hcond
      have hrep := cells_rep (ev_rep hc hf2) hv
      have hlen : (a.eval x).cells.size = m := by have := hrep.1; simp at this; omega
      have hle : o + m ≤ us.size := by have := hr.1; simp at this; omega
      obtain ⟨r, g1, g2⟩ := fill_sound hc hpl xs ps _ (wrVals us.toList o (a.eval x).cells.toList).toArray ds hf3 h (by simpa using hr.wr hrep o)
      refine ⟨r, ?_, g2⟩
      simp only [List.map_cons, Instr.fill, hpl']
      rw [if_neg (by rw [hlen, ho]; simp; omega)]
      rw [← Array.foldl_toList, Array.toList_zipIdx]
      have := foldl_set (a.eval x).cells.toList us f.offset 0 (by rw [ho]; simp [hlen]; omega)
      simp only [Nat.add_zero] at this
      rw [this, ho]; exact g1
  | [], _ :: _, _, _, _, h, _, _ => by cases h
  | _ :: _, [], _, _, _, h, _, _ => by cases h

theorem fields_mapM (w : World) : ∀ (fs : List Field), (∀ f ∈ fs, (P.info? f.type).isSome = true) → (fs.mapM fun f => (do pure (f.offset, ← sizeOf f.type) : Sem (Nat × Nat))).run P w = .ok (fs.map fun f => (f.offset, ((P.info? f.type).map (·.size)).getD 0)) w
  | [], _ => by simp
  | f :: fs, h => by
    obtain ⟨i, hi⟩ := Option.isSome_iff_exists.1 (h f (by simp))
    have ih := fields_mapM w fs (fun g hg => h g (by simp [hg]))
    simp only [List.mapM_cons, Sem.run_bind, sizeOf, typeInfo, run_program, Result.andThen_ok, hi, Sem.run_pure, List.map_cons, Option.map_some, Option.getD_some] at ih ⊢
    rw [ih]; rfl

theorem zeroIs_some {t : TypeId} {zs : List AV} (h : zeroIs P t zs = true) : ∃ i z, P.info? t = some i ∧ i.zero = some z ∧ constsOk z.cells.toList zs = true := by
  unfold zeroIs at h
  split at h
  · rename_i i hi
    split at h
    · rename_i z hz; exact ⟨i, z, hi, hz, h⟩
    · cases h
  · cases h

theorem yields_build (hc : Conc n F Γ0 w0 Γ s a w) {o : Oper} {zs : List AV} {ps : List (Nat × Nat × LA)} {t : TypeId} {parts : Array (Nat × Operand)} {fs : Array Field} (ho : o.op = .build t parts) (hz : zeroIs P t zs = true) (hu : P.underlying t = some (.struct fs))
    (hall : ∀ f ∈ fs.toList, (P.info? f.type).isSome = true) {ds : List AV} (hf : fitParts P fs parts.toList ps = true) (hd : fillV s.fr zs ps = some ds) : Yields P Γ a w o (.agg ds) := by
  obtain ⟨i, z, hi, hz1, hz2⟩ := zeroIs_some hz
  have hm := fields_mapM (P := P) w fs.toList hall
  obtain ⟨r, g1, g2⟩ := fill_sound (P := P) hc (fs := fs) (pl := fun k => (fs.map fun f => (f.offset, ((P.info? f.type).map (·.size)).getD 0))[k]?) (fun k f hk => by
    obtain ⟨inf, hin⟩ := Option.isSome_iff_exists.1 (hall f (List.mem_of_getElem? (by simpa using hk)))
    exact ⟨inf, hin, by simp [hk, hin]⟩) parts.toList ps zs z.cells ds hf hd (constsOk_rep hz2 Γ)
  refine ⟨.agg r, ?_, ?_⟩
  · have hma : (fs.mapM fun f => (do pure (f.offset, ← sizeOf f.type) : Sem (Nat × Nat))).run P w = .ok (fs.map fun f => (f.offset, ((P.info? f.type).map (·.size)).getD 0)) w := by
      rw [Array.mapM_eq_mapM_toList, Sem.run_map, hm, Result.andThen_ok]
      congr 1; apply Array.ext'; simp
    simp only [execOp, ho, Instr.build, zeroValue, typeInfo, Sem.run_bind, run_program, Result.andThen_ok, hi, hz1, Sem.run_pure, run_underlying hu, hma]
    have : (parts.map fun x => (x.1, a.eval x.2)).toList = parts.toList.map fun x => (x.1, a.eval x.2) := by simp
    rw [this, g1]; rfl
  · have := g2.agg
    simpa using this

theorem mm_run (mx : Bool) : ∀ (us : List Value) (xs : List AV) (x z : AV) (u : Value), mmL mx x xs = some z → Rep Γ x u → us.length = xs.length → (∀ (i : Nat) c v, xs[i]? = some c → us[i]? = some v → Rep Γ c v) →
    ∃ v, ((us.foldlM (if mx then Builtin.max2 else Builtin.min2) u : Sem Value)).run P w = .ok v w ∧ Rep Γ z v
  | [], [], x, z, u, h, hr, _, _ => by cases h; exact ⟨u, by simp, hr⟩
  | v :: us, c :: xs, x, z, u, h, hr, hl, hx => by
    simp only [mmL] at h
    cases hq : mmV mx x c with
    | none => rw [hq] at h; cases h
    | some y =>
      rw [hq] at h
      have hc := hx 0 c v rfl rfl
      cases x <;> (try (simp [mmV] at hq; done))
      cases c <;> (try (simp [mmV] at hq; done))
      rename_i k p k' q
      simp only [mmV] at hq
      split at hq
      case isFalse => cases hq
      rename_i hk; subst hk
      cases hq
      have e1 := hr.int_inv; have e2 := hc.int_inv
      subst e1; subst e2
      obtain ⟨v', g1, g2⟩ := mm_run mx us xs _ z (.int k (if mx then (if q > p then q else p) else (if q < p then q else p))) h (.int _ _) (by simpa using hl) (fun i c v h1 h2 => hx (i + 1) c v (by simpa using h1) (by simpa using h2))
      refine ⟨v', ?_, g2⟩
      rw [List.foldlM_cons, Sem.run_bind]
      cases mx
      · simp only [Bool.false_eq_true, if_false, Builtin.min2, Sem.run_pure, Result.andThen_ok] at g1 ⊢; exact g1
      · simp only [if_true, Builtin.max2, Sem.run_pure, Result.andThen_ok] at g1 ⊢; exact g1
  | [], _ :: _, _, _, _, _, _, h, _ => by cases h
  | _ :: _, [], _, _, _, _, _, h, _ => by cases h

theorem mmL_plain {mx : Bool} : ∀ {xs : List AV} {x z : AV}, mmL mx x xs = some z → xs ≠ [] → (∃ k q, x = .int k q) ∧ ∀ c ∈ xs, ∃ k q, c = .int k q
  | [], _, _, _, h => absurd rfl h
  | c :: xs, x, z, h, _ => by
    simp only [mmL] at h
    cases hq : mmV mx x c with
    | none => rw [hq] at h; cases h
    | some y =>
      rw [hq] at h
      cases x <;> (try (simp [mmV] at hq; done))
      cases c <;> (try (simp [mmV] at hq; done))
      refine ⟨⟨_, _, rfl⟩, fun c' hc' => ?_⟩
      rcases List.mem_cons.1 hc' with rfl | hc'
      · exact ⟨_, _, rfl⟩
      · exact (mmL_plain (x := y) h (by intro e; subst e; cases hc')).2 c' hc'

theorem yields_mm (hc : Conc n F Γ0 w0 Γ s a w) {o : Oper} {mx : Bool} {x : LA} {xs : List LA} {b : Builtin} {args : Array Operand} {ts : Array TypeId} (hb : (match mx, b with | true, .max => true | false, .min => true | _, _ => false) = true)
    (ho : o.op = .call { callee := .builtin b, args := args, argTypes := ts }) (h1 : fitAs args.toList (x :: xs) = true) (hne : xs ≠ []) {z : AV} (hz : mmL mx (x.ev s.fr) (xs.map (·.ev s.fr)) = some z) : Yields P Γ a w o z := by
  obtain ⟨⟨k, q, hx⟩, hxs⟩ := mmL_plain hz (by simpa using hne)
  obtain ⟨e1, e2⟩ := fitAs_rep hc h1
  cases hargs : args.toList with
  | nil => rw [hargs] at e1; cases e1
  | cons y ys =>
    rw [hargs] at e1 e2
    have r1 : Rep Γ (x.ev s.fr) (a.eval y) := ev_rep hc (e2 0 y x rfl rfl)
    obtain ⟨v, g1, g2⟩ := mm_run (P := P) (w := w) mx (ys.map a.eval) (xs.map (·.ev s.fr)) _ z (a.eval y) hz r1 (by simpa using e1) (fun i c u h1' h2' => by
      simp only [List.getElem?_map, Option.map_eq_some_iff] at h1' h2'
      obtain ⟨l, hl, rfl⟩ := h1'
      obtain ⟨y', hy, rfl⟩ := h2'
      exact ev_rep hc (e2 (i + 1) y' l (by simpa using hy) (by simpa using hl)))
    refine ⟨v, ?_, g2⟩
    · have hl : (args.map a.eval).toList = a.eval y :: ys.map a.eval := by simp [hargs]
      split at hb
      · simp only [if_true] at g1
        simp [execOp, ho, resolve, invoke, builtin, Builtin.max_, hargs, g1]
      · simp only [Bool.false_eq_true, if_false] at g1
        simp [execOp, ho, resolve, invoke, builtin, Builtin.min_, hargs, g1]
      · cases hb
end

end Go.Proofs.YtfhflogbffibiaaGreat

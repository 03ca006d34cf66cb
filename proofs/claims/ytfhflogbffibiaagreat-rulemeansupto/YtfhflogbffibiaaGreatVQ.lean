/-
  'fitOp': does an operation of the loaded program fit an abstract one? Then it does what 'LOp.run' says.
-/
import Derived.Test.YtfhflogbffibiaaGreatVP
namespace Go.Proofs.YtfhflogbffibiaaGreat
open Go
set_option linter.unusedSimpArgs false
set_option linter.unusedVariables false

/-- The elements' type of a slice type: its size, its bytes, its zero. -/
def elemZ (P : Program) (t : TypeId) (E bytes : Nat) : Bool := match P.underlying t with
  | some (.slice e) => match P.info? e with
    | some i => i.size == E && i.bytes == bytes && decide (0 < bytes) && (match i.zero with
      | some z => z.cells.size == E && z.cells.all (·.oneCell')
      | none => false)
    | none => false
  | _ => false

theorem elemZ_some {P : Program} {t : TypeId} {E bytes : Nat} (h : elemZ P t E bytes = true) : ∃ e i z, P.underlying t = some (.slice e) ∧ P.info? e = some i ∧ i.zero = some z ∧ i.size = E ∧ i.bytes = bytes ∧ 0 < bytes ∧ z.cells.size = E ∧ ∀ v ∈ z.cells, v.oneCell' = true := by
  unfold elemZ at h
  split at h
  · rename_i e hu
    split at h
    · rename_i i hi
      simp only [Bool.and_eq_true, beq_iff_eq, decide_eq_true_eq] at h
      obtain ⟨⟨⟨h1, h2⟩, h3⟩, h4⟩ := h
      split at h4
      · rename_i z hz
        simp only [Bool.and_eq_true, beq_iff_eq] at h4
        exact ⟨e, i, z, hu, hi, hz, h1, h2, h3, h4.1, fun v hv => (Array.all_eq_true_iff_forall_mem.1 h4.2) v hv⟩
      · cases h4
    · cases h
  · cases h

/-- The zero cells of the elements of a slice type. -/
def elemC (P : Program) (t : TypeId) (zs : List AV) : Bool := match P.underlying t with
  | some (.slice e) => zeroIs P e zs
  | _ => false

def isNilK : Operand → Bool
  | .const (.slice none 0 0) => true
  | _ => false

theorem isNilK_some {y : Operand} (h : isNilK y = true) : y = .const (.slice none 0 0) := by
  unfold isNilK at h
  split at h
  · rfl
  · cases h

def fitOp (P : Program) (op : Op) (l : LOp) : Bool :=
  match l, op with
  | .mv x, .move y => fitA y x
  | .mv x, .assign y => fitA y x
  | .pick c a b, .pick c' a' b' => fitA c' c && fitA a' a && fitA b' b
  | .alloc zs, .alloc t => zeroIs P t zs
  | .box x, .box _ y => fitA y x
  | .build zs ps, .build t parts => zeroIs P t zs && (match P.underlying t with | some (.struct fs) => fs.all (fun f => (P.info? f.type).isSome) && fitParts P fs parts.toList ps | _ => false)
  | .mks E ps, .buildSlice t len parts => len == ps.length && decide (len * E ≤ 2 ^ 24) && fitElems 0 parts.toList ps && (match P.underlying t with | some (.slice e) => (match P.info? e with | some i => i.size == E && i.zero.isSome | none => false) | _ => false)
  | .mkz E zs x y, .makeSlice t x' y' => fitA x' x && fitA y' y && elemC P t zs && elemIs P t E && decide (0 < E) && (match P.underlying t with | some (.slice e) => (match P.info? e with | some i => decide (i.bytes ≤ 2 ^ 20) | none => false) | _ => false)
  | .ld x n ag, .load t y => fitA y x && sizeIs P t n && rowIs P t ag
  | .st x v n, .store t y u => fitA y x && fitA u v && sizeIs P t n
  | .nck x, .nilCheck y => fitA y x
  | .bin op x y m, .binOp op' t x' y' _ => op == op' && fitA x' x && fitA y' y && (!isEq op || eqTy P t m)
  | .un op x, .unOp op' _ x' => op == op' && fitA x' x
  | .conv k x, .convert src dst x' => fitA x' x && (P.underlying src).isSome && (match P.underlying dst with | some (.int k') => k == k' | _ => false)
  | .mkf f caps, .makeFunc (.func f') first captured => f == f' && first.size == 0 && fitAs captured.toList caps
  | .slc E x lo hi mx, .slice t y l h m => elemIs P t E && fitA y x && fitO l lo && fitO h hi && fitO m mx && (!(m.isSome && h.isNone))
  | .fa x o, .fieldAddr t y f => fitA y x && (match P.underlying t with | some (.struct fs) => (match fs[f]? with | some fd => fd.offset == o && (match P.info? fd.type with | some i => i.size != 0 | none => false) | none => false) | _ => false)
  | .ix E x i, .indexAddr t y j => elemIs P t E && fitA y x && fitA j i
  | .six x i, .index t y j => fitA y x && fitA j i && (match P.underlying t with | some .string => true | _ => false)
  | .ext x i, .extract y j => fitA y x && i == j
  | .len x ks, .call { callee := .builtin .len, args, argTypes } => (match args.toList, argTypes.toList with | [y], [t] => fitA y x && (match P.underlying t with | some (.slice _) => !ks | some .string => ks | _ => false) | _, _ => false)
  | .cap x, .call { callee := .builtin .cap, args, argTypes } => (match args.toList, argTypes.toList with | [y], [t] => fitA y x && (match P.underlying t with | some (.slice _) => true | _ => false) | _, _ => false)
  | .clr zs x, .call { callee := .builtin .clear, args, argTypes } => (match args.toList, argTypes.toList with | [y], [t] => fitA y x && elemC P t zs | _, _ => false)
  | .mm mx x xs, .call { callee := .builtin b, args, argTypes := _ } => (match mx, b with | true, .max => true | false, .min => true | _, _ => false) && fitAs args.toList (x :: xs) && !xs.isEmpty
  | .app E bytes x y, .call { callee := .builtin .append, args, argTypes } => (match args.toList, argTypes.toList with
      | [x', y'], [t, u] => fitA x' x && fitA y' y && elemIs P u E && elemZ P t E bytes
      | _, _ => false)
  | .appz E bytes zs x y, .call { callee := .builtin .append, args, argTypes } => (match args.toList, argTypes.toList with
      | [x', y'], [t, u] => fitA x' x && fitA y' y && elemZ P t E bytes && elemC P t zs && (match P.underlying u with | some (.int _) => true | _ => false)
      | _, _ => false)
  | .isnil x, .binOp bo t x' y' _ => bo == .eql && isNilK y' && fitA x' x && (match P.underlying t with | some (.slice _) => true | _ => false)
  | .call f args, .call { callee := .value (.func f'), args := args', argTypes := _ } => f == f' && fitAs args'.toList args && (match P.funcs[f]? with | some fn => fn.name != "runtime.NumGoroutine" && fn.body.isSome | none => false)
  | .kcall f args, .call { callee := .value (.func f'), args := args', argTypes := _ } => f == f' && fitAs args'.toList args && (match P.funcs[f]? with | some fn => fn.name != "runtime.NumGoroutine" && fn.body.isSome | none => false)
  | .pcall f args, .call { callee := .value (.func f'), args := args', argTypes := _ } => f == f' && fitAs args'.toList args && (match P.funcs[f]? with | some fn => fn.name != "runtime.NumGoroutine" && fn.body.isSome | none => false)
  | .callv x args, .call { callee := .value (.tmp t), args := args', argTypes := _ } => fitA (.tmp t) x && fitAs args'.toList args
  | .bad, _ => true
  | _, _ => false

section
variable {P : Program} {n : Nat} {F : Nat → Prop} {Γ0 : RO} {w0 : World} {Γ : RO} {s : St} {a : Act} {w : World}

theorem map_some {α : Type} {f : Option α} {r : α × List (Nat × HO)} (h : f.map (fun x => (x, ([] : List (Nat × HO)))) = some r) : ∃ v, f = some v ∧ r = (v, []) := by
  cases f with
  | none => cases h
  | some v => simp only [Option.map_some, Option.some.injEq] at h; exact ⟨v, rfl, h.symm⟩

theorem yields_isnil (hc : Conc n F Γ0 w0 Γ s a w) {o : Oper} {x : LA} {x' : Operand} {t t' e : TypeId} (ho : o.op = .binOp .eql t x' (.const (.slice none 0 0)) t') (f1 : fitA x' x = true) (hu : P.underlying t = some (.slice e))
    (hx : (∃ E y ys c, x.ev s.fr = .ro E (y :: ys) c) ∨ (∃ nm E o len cap, x.ev s.fr = .ns nm E o len cap) ∨ ∃ nm E off len, x.ev s.fr = .gs nm E off len) : Yields P Γ a w o (.bool false) := by
  have hr := ev_rep hc f1
  have hv : ∃ q len cap, a.eval x' = .slice (some q) len cap := by
    rcases hx with ⟨E, y, ys, c, hx⟩ | ⟨nm, E, p, len, cap, hx⟩ | ⟨nm, E, off, len, hx⟩ <;> rw [hx] at hr
    · generalize a.eval x' = u at hr
      cases hr with
      | ro E xs clip b q cap f => exact ⟨_, _, _, rfl⟩
    · obtain ⟨b, c, h, _⟩ := hr.ns_inv; exact ⟨_, _, _, h⟩
    · obtain ⟨b, c, q, h, _⟩ := hr.gs_inv; exact ⟨_, _, _, h⟩
  obtain ⟨q, len, cap, hv⟩ := hv
  have heq : (Op.equal t (.slice (some q) len cap) (.slice none 0 0)).run P w = .ok false w := by
    show (Op.equalIn (9999 + 1) t _ _).run P w = _
    generalize 9999 = d
    simp [Op.equalIn, run_underlying hu]
  refine ⟨.bool false, ?_, .bool _⟩
  have hg : (eqGuard .eql t x' (.const (.slice none 0 0)) (.slice (some q) len cap) (.slice none 0 0)).run P w = .ok () w := by
    simp [eqGuard]
  have hk : a.eval (.const (.slice none 0 0)) = .slice none 0 0 := rfl
  simp [execOp, ho, hv, hk, hg, binOp, heq]

theorem does_mkz0 (hc : Conc n F Γ0 w0 Γ s a w) {o : Oper} (hd : ∀ x, o.dst = some x → x < n) {E : Nat} {x y : LA} {x' y' : Operand} {t e : TypeId} {i : TypeInfo} {k k' : IntKind} (ho : o.op = .makeSlice t x' y') (f1 : fitA x' x = true) (f2 : fitA y' y = true)
    (hu : P.underlying t = some (.slice e)) (hi : P.info? e = some i) (hx : x.ev s.fr = .int k 0) (hy : y.ev s.fr = .int k' 0) : Does P n F Γ0 w0 (s.app o.dst (.ro E [] true) []) a w o := by
  have e1 := (hx ▸ ev_rep hc f1 : Rep Γ (.int k 0) (a.eval x')).int_inv
  have e2 := (hy ▸ ev_rep hc f2 : Rep Γ (.int k' 0) (a.eval y')).int_inv
  have hw := wrap_small (m := 0) (by omega) (by omega)
  have hrun : (execOp a.eval o).run P w = .ok (.value (.slice (some ⟨w.heap.size, 0, none⟩) 0 0)) (w.alloc (.cells #[] e)) := by
    simp [execOp, ho, Instr.makeSlice, e1, e2, asInt, asIntOf, run_underlying hu, typeInfo, sizeOf, hi, hw, newRow]
    congr 2
    apply Array.ext'
    simp
  exact ⟨_, _, _, .inl hrun, (hc.alloc _).put hd (.ro0 E true _ 0 (fun _ => rfl))⟩

theorem does_clr0 (hc : Conc n F Γ0 w0 Γ s a w) {o : Oper} (hd : ∀ x, o.dst = some x → x < n) {E : Nat} {cl : Bool} {x : LA} {x' : Operand} {t e : TypeId} {args : Array Operand} {ts : Array TypeId} (ho : o.op = .call { callee := .builtin .clear, args := args, argTypes := ts })
    (ha : args.toList = [x']) (hts : ts.toList = [t]) (f1 : fitA x' x = true) (hu : P.underlying t = some (.slice e)) (hx : x.ev s.fr = .ro E [] cl) : Does P n F Γ0 w0 (s.app o.dst .any []) a w o := by
  have hargs : args = #[x'] := by apply Array.ext'; simpa using ha
  have htys : ts = #[t] := by apply Array.ext'; simpa using hts
  have hr : Rep Γ (.ro E [] cl) (a.eval x') := hx ▸ ev_rep hc f1
  have hv : ∃ q cap, a.eval x' = .slice q 0 cap := by
    generalize a.eval x' = u at hr
    generalize hxs : ([] : List (List AV)) = xs at hr
    cases hr with
    | ro E xs clip b p cap f => subst hxs; exact ⟨_, _, rfl⟩
    | ro0 E clip q cap => exact ⟨_, _, rfl⟩
  obtain ⟨q, cap, hv⟩ := hv
  refine ⟨.tuple #[], w, Γ, .inl ?_, hc.put hd (.any _)⟩
  cases q <;> simp [execOp, ho, hargs, htys, resolve, invoke, builtin, Builtin.clear_, run_underlying hu, hv]

theorem does_clrg (hc : Conc n F Γ0 w0 Γ s a w) {o : Oper} (hd : ∀ x, o.dst = some x → x < n) {E nm off len : Nat} {zs : List AV} {xs : List (List AV)} {x : LA} {x' : Operand} {t e : TypeId} {i : TypeInfo} {z : Value} {args : Array Operand} {ts : Array TypeId} (ho : o.op = .call { callee := .builtin .clear, args := args, argTypes := ts })
    (ha : args.toList = [x']) (hts : ts.toList = [t]) (f1 : fitA x' x = true) (hu : P.underlying t = some (.slice e)) (hi : P.info? e = some i) (hz : i.zero = some z) (hzs : constsOk z.cells.toList zs = true) (hzl : zs.length = E) (hx : x.ev s.fr = .gs nm E off len) (hH : s.H nm = some (.gro E xs)) (hle : off + len ≤ xs.length) :
    Does P n F Γ0 w0 (s.app o.dst .any [(nm, .gro E (xs.take off ++ List.replicate len zs ++ xs.drop (off + len)))]) a w o := by
  have hargs : args = #[x'] := by apply Array.ext'; simpa using ha
  have htys : ts = #[t] := by apply Array.ext'; simpa using hts
  obtain ⟨b, c, q, hv, hn, hoc, hq⟩ := (hx ▸ ev_rep hc f1 : Rep Γ (.gs nm E off len) (a.eval x')).gs_inv
  obtain ⟨b', c', us, ty, e1, _, e3, e4, e5⟩ := hc.obj_cells hH rfl
  rw [hn] at e1; cases e1
  obtain ⟨b2, c2, k1, _, _, hxE, hcap, _⟩ := hc.heap.obj nm _ hH rfl
  rw [hn] at k1; cases k1
  have hfx := flatten_len hxE
  have hr := zeros_rep hzs len Γ
  have hfl : (List.replicate len zs).flatten.length = len * E := by simp [List.length_flatten, hzl]
  have hul : (List.replicate len z.cells.toList).flatten.length = len * E := by rw [hr.1, hfl]
  have hmul : (off + len) * E ≤ xs.length * E := Nat.mul_le_mul_right _ hle
  rw [Nat.add_mul] at hmul
  have hst := run_storeCells_cells (P := P) b (off * E) (List.replicate len z.cells.toList).flatten 0 w (fun j hj => by
    simp only [World.cell?, e3, Nat.add_zero, Option.isSome_none, Bool.false_eq_true, if_false, List.getElem?_toArray]
    rw [List.getElem?_eq_getElem (by omega)]; rfl) (fun j hj => by simp [World.frozen?, e3]) hr.2.2
  simp only [Nat.add_zero] at hst
  have hzl' := zeroCells_toList z.cells len
  have hwr : (HO.gro E xs).wr (off * E) (List.replicate len zs).flatten = .gro E (xs.take off ++ List.replicate len zs ++ xs.drop (off + len)) := by
    simp only [HO.wr]
    rw [wr_flatten hxE (fun y hy => by rw [List.eq_of_mem_replicate hy]; exact hzl)]
    have hlen : xs.length = (xs.take off ++ List.replicate len zs ++ xs.drop (off + (List.replicate len zs).length)).length := by simp; omega
    rw [hlen, chunk_of_flatten (fun y hy => by
      simp only [List.mem_append] at hy
      rcases hy with (hy | hy) | hy
      · exact hxE y (List.mem_of_mem_take hy)
      · rw [List.eq_of_mem_replicate hy]; exact hzl
      · exact hxE y (List.mem_of_mem_drop hy))]
    simp
  have h5 := e5 (off * E) _ _ hr (by omega)
  rw [hwr] at h5
  refine ⟨.tuple #[], w.setCells b (off * E) (List.replicate len z.cells.toList).flatten, Γ, .inl ?_, h5.put hd (.any _)⟩
  by_cases h0 : len = 0
  · subst h0
    simp [execOp, ho, hargs, htys, resolve, invoke, builtin, Builtin.clear_, run_underlying hu, hv, World.setCells]
  · obtain ⟨k, rfl⟩ : ∃ k, len = k + 1 := ⟨len - 1, by omega⟩
    have hq' := hq (by omega)
    subst hq'
    simp [execOp, ho, hargs, htys, resolve, invoke, builtin, Builtin.clear_, run_underlying hu, hv, zeroValue, typeInfo, hi, hz, hzl', hst]

/-- EVERY OPERATION but calls. -/
theorem does_of_fit (hc : Conc n F Γ0 w0 Γ s a w) {o : Oper} (hd : ∀ x, o.dst = some x → x < n) {lo : LOp} {nm : Nat} {av : AV} {ws : List (Nat × HO)} (hf : fitOp P o.op lo = true) (h : lo.run nm s.fr s.H = some (av, ws)) : Does P n F Γ0 w0 (s.app o.dst av ws) a w o := by
  generalize hop : o.op = op at hf
  have Y : ∀ {av'}, Yields P Γ a w o av' → (av, ws) = (av', []) → Does P n F Γ0 w0 (s.app o.dst av ws) a w o := fun hy e => by cases e; exact does_yields hc hd hy
  cases lo
  case mv x =>
    simp only [LOp.run, Option.some.injEq] at h
    cases op <;> simp only [fitOp, Bool.false_eq_true] at hf
    · exact Y (yields_mv hc (.inl hop) hf) h.symm
    · exact Y (yields_mv hc (.inr hop) hf) h.symm
  case pick c x y =>
    cases op <;> simp only [fitOp, Bool.false_eq_true, Bool.and_eq_true] at hf
    simp only [LOp.run] at h
    split at h
    · rename_i b hb
      simp only [Option.some.injEq] at h
      exact Y (yields_pick hc hop hf.1.1 hf.1.2 hf.2 hb) h.symm
    · cases h
  case alloc zs =>
    cases op <;> simp only [fitOp, Bool.false_eq_true] at hf
    obtain ⟨hn, rfl, rfl⟩ := ifNew_some h
    exact does_alloc hc hd hop hf hn
  case box x =>
    cases op <;> simp only [fitOp, Bool.false_eq_true] at hf
    simp only [LOp.run] at h
    cases hv : (x.ev s.fr).cells with
    | none => rw [hv] at h; cases h
    | some cs =>
      rw [hv] at h
      obtain ⟨hn, rfl, rfl⟩ := ifNew_some h
      exact does_box hc hd hop hf hv hn
  case build zs ps =>
    cases op <;> simp only [fitOp, Bool.false_eq_true, Bool.and_eq_true] at hf
    obtain ⟨h1, h2⟩ := hf
    simp only [LOp.run, Option.map_eq_some_iff] at h
    obtain ⟨cs, g1, g2⟩ := h
    split at h2
    · rename_i fs hu
      simp only [Bool.and_eq_true] at h2
      exact Y (yields_build hc hop h1 hu (fun f hf' => (Array.all_eq_true_iff_forall_mem.1 h2.1) f (by simpa using hf')) h2.2 g1) g2.symm
    · cases h2
  case mks E ps =>
    cases op <;> simp only [fitOp, Bool.false_eq_true, Bool.and_eq_true, beq_iff_eq, decide_eq_true_eq] at hf
    obtain ⟨⟨⟨h1, h2⟩, h3⟩, h4⟩ := hf
    simp only [LOp.run, Option.map_eq_some_iff, Prod.mk.injEq] at h
    obtain ⟨xs, g1, rfl, rfl⟩ := h
    split at h4
    · rename_i e hu
      split at h4
      · rename_i i hi
        simp only [Bool.and_eq_true, beq_iff_eq] at h4
        obtain ⟨z, hz⟩ := Option.isSome_iff_exists.1 h4.2
        exact does_mks hc hop hd hu hi hz h4.1 h1 h2 h3 g1
      · cases h4
    · cases h4
  case ld x m ag =>
    cases op <;> simp only [fitOp, Bool.false_eq_true, Bool.and_eq_true] at hf
    obtain ⟨v, g1, g2⟩ := map_some h
    exact Y (yields_ld hc hop hf.1.1 hf.1.2 hf.2 g1) g2
  case st x v m =>
    cases op <;> simp only [fitOp, Bool.false_eq_true, Bool.and_eq_true] at hf
    simp only [LOp.run] at h
    split at h
    · rename_i m' p vs hx hv
      split at h
      · rename_i ob hH
        split at h
        · rename_i cs hcs
          split at h
          · rename_i hcond
            simp only [Option.some.injEq, Prod.mk.injEq] at h
            obtain ⟨rfl, rfl⟩ := h
            exact does_st hc hop hd hf.1.1 hf.1.2 hf.2 hx hv hH hcs hcond.1 hcond.2
          · cases h
        · cases h
      · cases h
    · cases h
  case nck x =>
    cases op <;> simp only [fitOp, Bool.false_eq_true] at hf
    simp only [LOp.run] at h
    split at h
    · rename_i cs hv
      simp only [Option.some.injEq] at h
      exact Y (hv ▸ yields_nck hc hop hf (.inl ⟨_, hv⟩)) h.symm
    · rename_i m p hv
      simp only [Option.some.injEq] at h
      exact Y (hv ▸ yields_nck hc hop hf (.inr (.inl ⟨_, _, hv⟩))) h.symm
    · rename_i f cs hv
      simp only [Option.some.injEq] at h
      exact Y (hv ▸ yields_nck hc hop hf (.inr (.inr ⟨_, _, hv⟩))) h.symm
    · cases h
  case bin b x y m =>
    cases op <;> simp only [fitOp, Bool.false_eq_true, Bool.and_eq_true, beq_iff_eq, Bool.or_eq_true, Bool.not_eq_true'] at hf
    obtain ⟨⟨⟨rfl, h1⟩, h2⟩, h3⟩ := hf
    obtain ⟨v, g1, g2⟩ := map_some h
    exact Y (yields_bin hc hop h1 h2 (fun h => h3.resolve_left (by rw [h]; simp)) g1) g2
  case un b x =>
    cases op <;> simp only [fitOp, Bool.false_eq_true, Bool.and_eq_true, beq_iff_eq] at hf
    obtain ⟨rfl, h1⟩ := hf
    obtain ⟨v, g1, g2⟩ := map_some h
    exact Y (yields_un hc hop h1 g1) g2
  case conv k x =>
    cases op <;> simp only [fitOp, Bool.false_eq_true, Bool.and_eq_true] at hf
    obtain ⟨⟨h1, h2⟩, h3⟩ := hf
    obtain ⟨d, hd'⟩ := Option.isSome_iff_exists.1 h2
    split at h3
    · rename_i k' hk
      simp only [beq_iff_eq] at h3; subst h3
      simp only [LOp.run] at h
      split at h
      · rename_i k' m hv
        simp only [Option.some.injEq] at h
        exact Y (yields_conv hc hop h1 hd' hk hv) h.symm
      · cases h
    · cases h3
  case mkf f caps =>
    cases op <;> simp only [fitOp, Bool.false_eq_true] at hf
    rename_i fn first captured
    cases fn <;> simp only [Bool.false_eq_true, Bool.and_eq_true, beq_iff_eq] at hf
    obtain ⟨⟨rfl, h1⟩, h2⟩ := hf
    simp only [LOp.run, Option.some.injEq] at h
    exact Y (yields_mkf hc hop h1 h2) h.symm
  case slc E x lo hi mx =>
    cases op <;> simp only [fitOp, Bool.false_eq_true, Bool.and_eq_true, Bool.not_eq_true'] at hf
    obtain ⟨⟨⟨⟨⟨h1, h2⟩, h3⟩, h4⟩, h5⟩, h6⟩ := hf
    obtain ⟨v, g1, g2⟩ := map_some h
    exact Y (yields_slc hc hop h1 h2 h3 h4 h5 (fun h => by
      rw [Bool.and_eq_false_iff] at h6
      rcases h6 with h6 | h6
      · rw [h] at h6; cases h6
      · simpa using h6) g1) g2
  case fa x p =>
    cases op <;> simp only [fitOp, Bool.false_eq_true, Bool.and_eq_true] at hf
    obtain ⟨h1, h2⟩ := hf
    split at h2
    · rename_i fs hu
      split at h2
      · rename_i fd hfd
        simp only [Bool.and_eq_true, beq_iff_eq] at h2
        obtain ⟨h3, h4⟩ := h2
        split at h4
        · rename_i i hi
          obtain ⟨y1, y2⟩ := yields_fa hc hop h1 hu hfd h3 hi (by simpa using h4)
          simp only [LOp.run] at h
          split at h
          · rename_i cs hv
            simp only [Option.some.injEq] at h
            exact Y (y1 cs hv) h.symm
          · rename_i m q hv
            simp only [Option.some.injEq] at h
            exact Y (y2 m q hv) h.symm
          · cases h
        · cases h4
      · cases h2
    · cases h2
  case ix E x i =>
    cases op <;> simp only [fitOp, Bool.false_eq_true, Bool.and_eq_true] at hf
    obtain ⟨v, g1, g2⟩ := map_some h
    exact Y (yields_ix hc hop hf.1.1 hf.1.2 hf.2 g1) g2
  case six x i =>
    cases op <;> simp only [fitOp, Bool.false_eq_true, Bool.and_eq_true] at hf
    obtain ⟨⟨h1, h2⟩, h3⟩ := hf
    split at h3
    · rename_i hu
      simp only [LOp.run] at h
      split at h
      · rename_i b k m hx hy
        split at h
        · rename_i hcond
          simp only [Option.some.injEq] at h
          exact Y (yields_six hc hop h1 h2 hu hx hy hcond.1 hcond.2) h.symm
        · cases h
      · cases h
    · cases h3
  case ext x i =>
    cases op <;> simp only [fitOp, Bool.false_eq_true, Bool.and_eq_true, beq_iff_eq] at hf
    obtain ⟨h1, rfl⟩ := hf
    simp only [LOp.run] at h
    split at h
    · rename_i vs hv
      obtain ⟨v, g1, g2⟩ := map_some h
      exact Y (yields_ext hc hop h1 hv g1) g2
    · cases h
  case call f args => cases h
  case pcall f args => cases h
  case kcall f args => cases h
  case callv x args => cases h
  case bad => cases h
  case len x ks =>
    cases op <;> try (simp only [fitOp, Bool.false_eq_true] at hf; done)
    rename_i c
    obtain ⟨callee, args, ts⟩ := c
    cases callee <;> try (simp only [fitOp, Bool.false_eq_true] at hf; done)
    rename_i b
    cases b <;> try (simp only [fitOp, Bool.false_eq_true] at hf; done)
    simp only [fitOp] at hf
    split at hf
    · rename_i y t h1 h2
      simp only [Bool.and_eq_true] at hf
      simp only [LOp.run, Option.map_eq_some_iff] at h
      obtain ⟨m, g1, g2⟩ := h
      exact Y (yields_len hc hop h1 h2 hf.1 hf.2 g1) g2.symm
    · cases hf
  case cap x =>
    cases op <;> try (simp only [fitOp, Bool.false_eq_true] at hf; done)
    rename_i c
    obtain ⟨callee, args, ts⟩ := c
    cases callee <;> try (simp only [fitOp, Bool.false_eq_true] at hf; done)
    rename_i b
    cases b <;> try (simp only [fitOp, Bool.false_eq_true] at hf; done)
    simp only [fitOp] at hf
    split at hf
    · rename_i y t h1 h2
      simp only [Bool.and_eq_true] at hf
      simp only [LOp.run, Option.map_eq_some_iff] at h
      obtain ⟨m, g1, g2⟩ := h
      obtain ⟨k1, k2⟩ := hf
      split at k2
      · rename_i e hu
        exact Y (yields_cap hc hop h1 h2 k1 hu g1) g2.symm
      · cases k2
    · cases hf
  case mm mx x xs =>
    cases op <;> try (simp only [fitOp, Bool.false_eq_true] at hf; done)
    rename_i c
    obtain ⟨callee, args, ts⟩ := c
    cases callee <;> try (simp only [fitOp, Bool.false_eq_true] at hf; done)
    simp only [fitOp, Bool.and_eq_true] at hf
    obtain ⟨v, g1, g2⟩ := map_some h
    exact Y (yields_mm hc hf.1.1 hop hf.1.2 (by simpa using hf.2) g1) g2
  case app E bytes x y =>
    cases op <;> try (simp only [fitOp, Bool.false_eq_true] at hf; done)
    rename_i c
    obtain ⟨callee, args, ts⟩ := c
    cases callee <;> try (simp only [fitOp, Bool.false_eq_true] at hf; done)
    rename_i b
    cases b <;> try (simp only [fitOp, Bool.false_eq_true] at hf; done)
    simp only [fitOp] at hf
    split at hf
    · rename_i x' y' t u h1 h2
      simp only [Bool.and_eq_true] at hf
      obtain ⟨⟨⟨k1, k2⟩, k3⟩, k4⟩ := hf
      obtain ⟨e, i, z, hu, hi, hz, hs, hby, hpos, hzs, hz1⟩ := elemZ_some k4
      obtain ⟨e2, i2, hu2, _, _⟩ := elemIs_some k3
      simp only [LOp.run, appV] at h
      cases hys : elsV s.H E (y.ev s.fr) with
      | none => rw [hys] at h; cases h
      | some ys =>
        rw [hys] at h
        obtain ⟨news, q1, q2, q3⟩ := src_els (P := P) hc hu2 hys (ev_rep hc k2)
        rw [← hs] at q1
        have hS := Src.toW (ty := o.type) hu hi hz q1
        cases ys with
        | nil => exact does_app0 hc hd hop h1 h2 hS (ev_rep hc k1) h
        | cons y1 yr => exact does_appC hc hd hop h1 h2 hs hby hpos hzs hz1 hS q2 q3 (by simp) (ev_rep hc k1) h
    · cases hf
  case appz E bytes zs x y =>
    cases op <;> try (simp only [fitOp, Bool.false_eq_true] at hf; done)
    rename_i c
    obtain ⟨callee, args, ts⟩ := c
    cases callee <;> try (simp only [fitOp, Bool.false_eq_true] at hf; done)
    rename_i b
    cases b <;> try (simp only [fitOp, Bool.false_eq_true] at hf; done)
    simp only [fitOp] at hf
    split at hf
    · rename_i x' y' t u h1 h2
      simp only [Bool.and_eq_true] at hf
      obtain ⟨⟨⟨⟨k1, k2⟩, k3⟩, k4⟩, k5⟩ := hf
      obtain ⟨e, i, z, hu, hi, hz, hs, hby, hpos, hzs, hz1⟩ := elemZ_some k3
      split at k5
      · rename_i k hk
        simp only [LOp.run] at h
        split at h
        · rename_i m hy
          split at h
          · rename_i hcond
            have c1 := hcond.1
            have c2 := hcond.2.1
            have c3 := hcond.2.2
            have hv := (hy ▸ ev_rep hc k2 : Rep Γ (.int .i64 m) (a.eval y')).int_inv
            have hzc : constsOk z.cells.toList zs = true := by
              unfold elemC at k4
              rw [hu] at k4
              obtain ⟨i', z', hi', hz', hzz⟩ := zeroIs_some k4
              rw [hi] at hi'; cases hi'
              rw [hz] at hz'; cases hz'
              exact hzz
            have hS : SrcW P t u o.type e i z (a.eval y') (List.replicate m.toNat zs).length (List.replicate m.toNat z.cells.toList).flatten w := by
              rw [hv, List.length_replicate]
              exact srcZ hu hk hi hz hby hpos (by rw [hzs, hs]) hz1 c2 c3
            have hnr := zeros_rep hzc m.toNat Γ
            have hnl : ∀ y ∈ List.replicate m.toNat zs, y.length = E := fun y hy' => by rw [List.eq_of_mem_replicate hy']; exact c1
            simp only [appV] at h
            clear hcond
            generalize List.replicate m.toNat zs = ys at h hS hnr hnl
            cases ys with
            | nil => exact does_app0 hc hd hop h1 h2 hS (ev_rep hc k1) h
            | cons y1 yr => exact does_appC hc hd hop h1 h2 hs hby hpos hzs hz1 hS hnr hnl (by simp) (ev_rep hc k1) h
          · cases h
        · cases h
      · cases k5
    · cases hf
  case isnil x =>
    cases op <;> simp only [fitOp, Bool.false_eq_true, Bool.and_eq_true, beq_iff_eq] at hf
    obtain ⟨⟨⟨rfl, k1⟩, k2⟩, k3⟩ := hf
    have := isNilK_some k1
    subst this
    split at k3
    · rename_i e hu
      simp only [LOp.run] at h
      split at h
      · rename_i hv
        simp only [Option.some.injEq] at h
        exact Y (yields_isnil hc hop k2 hu (.inl ⟨_, _, _, _, hv⟩)) h.symm
      · rename_i hv
        simp only [Option.some.injEq] at h
        exact Y (yields_isnil hc hop k2 hu (.inr (.inl ⟨_, _, _, _, _, hv⟩))) h.symm
      · rename_i hv
        simp only [Option.some.injEq] at h
        exact Y (yields_isnil hc hop k2 hu (.inr (.inr ⟨_, _, _, _, hv⟩))) h.symm
      · cases h
    · cases k3
  case mkz E zs x y =>
    cases op <;> simp only [fitOp, Bool.false_eq_true, Bool.and_eq_true, decide_eq_true_eq] at hf
    obtain ⟨⟨⟨⟨⟨k1, k2⟩, k3⟩, k4⟩, k5⟩, k6⟩ := hf
    obtain ⟨e, i, hu, hi, hs⟩ := elemIs_some k4
    rw [hu] at k6
    simp only [hi, decide_eq_true_eq] at k6
    unfold elemC at k3
    rw [hu] at k3
    obtain ⟨i', z, hi', hz, hzz⟩ := zeroIs_some k3
    rw [hi] at hi'; cases hi'
    simp only [LOp.run] at h
    split at h
    · rename_i kl l kc c hx hy
      split at h
      · rename_i hcond
        obtain ⟨hn, rfl, rfl⟩ := ifNew_some h
        exact does_mkz hc hd hop k1 k2 hu hi hz hs hzz hcond.2.2.1 k5 k6 hx hy hcond.1 hcond.2.1 hcond.2.2.2 hn
      · split at h
        · rename_i hcond
          obtain ⟨rfl, rfl⟩ := hcond
          simp only [Option.some.injEq, Prod.mk.injEq] at h
          obtain ⟨rfl, rfl⟩ := h
          exact does_mkz0 hc hd hop k1 k2 hu hi hx hy
        · cases h
    · cases h
  case clr zs x =>
    cases op <;> try (simp only [fitOp, Bool.false_eq_true] at hf; done)
    rename_i c
    obtain ⟨callee, args, ts⟩ := c
    cases callee <;> try (simp only [fitOp, Bool.false_eq_true] at hf; done)
    rename_i b
    cases b <;> try (simp only [fitOp, Bool.false_eq_true] at hf; done)
    simp only [fitOp] at hf
    split at hf
    · rename_i y t h1 h2
      simp only [Bool.and_eq_true] at hf
      obtain ⟨k1, k2⟩ := hf
      unfold elemC at k2
      split at k2
      · rename_i e hu
        obtain ⟨i, z, hi, hz, hzz⟩ := zeroIs_some k2
        simp only [LOp.run] at h
        split at h
        · rename_i E' c' hx
          simp only [Option.some.injEq, Prod.mk.injEq] at h
          obtain ⟨rfl, rfl⟩ := h
          exact does_clr0 hc hd hop h1 h2 k1 hu hx
        · rename_i nm' E p ln cp hx
          split at h
          · rename_i ob hH
            split at h
            · rename_i cs hcs
              split at h
              · rename_i hcond
                simp only [Option.some.injEq, Prod.mk.injEq] at h
                obtain ⟨rfl, rfl⟩ := h
                exact does_clr hc hd hop h1 h2 k1 hu hi hz hzz hcond.1 hx hH hcs hcond.2
              · cases h
            · cases h
          · cases h
        · rename_i nm' E off ln hx
          split at h
          · rename_i E' xs hH
            split at h
            · rename_i hcond
              simp only [Option.some.injEq, Prod.mk.injEq] at h
              obtain ⟨rfl, rfl⟩ := h
              obtain ⟨c1, rfl, c3⟩ := hcond
              exact does_clrg hc hd hop h1 h2 k1 hu hi hz hzz c1 hx hH c3
            · cases h
          · cases h
        · cases h
      · cases k2
    · cases hf
end

end Go.Proofs.YtfhflogbffibiaaGreat

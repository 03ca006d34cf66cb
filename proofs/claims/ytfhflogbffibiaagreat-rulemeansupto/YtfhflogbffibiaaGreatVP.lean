/-
  clear; a byte of a string; make.
-/
import Derived.Test.YtfhflogbffibiaaGreatVO
namespace Go.Proofs.YtfhflogbffibiaaGreat
open Go
set_option linter.unusedSimpArgs false
set_option linter.unusedVariables false

section
variable {P : Program} {n : Nat} {F : Nat → Prop} {Γ0 : RO} {w0 : World} {Γ : RO} {s : St} {a : Act} {w : World}

theorem does_mkz (hc : Conc n F Γ0 w0 Γ s a w) {o : Oper} (hd : ∀ x, o.dst = some x → x < n) {E nm : Nat} {zs : List AV} {x y : LA} {x' y' : Operand} {t e : TypeId} {i : TypeInfo} {z : Value} {l c : Int} {k k' : IntKind} (ho : o.op = .makeSlice t x' y') (f1 : fitA x' x = true) (f2 : fitA y' y = true)
    (hu : P.underlying t = some (.slice e)) (hi : P.info? e = some i) (hz : i.zero = some z) (hs : i.size = E) (hzs : constsOk z.cells.toList zs = true) (hzl : zs.length = E) (hE : 0 < E) (h8 : i.bytes ≤ 2 ^ 20) (hx : x.ev s.fr = .int k l) (hy : y.ev s.fr = .int k' c) (h0 : 0 < l) (hlc : l ≤ c) (h24 : c * E ≤ 2 ^ 24) (hn : s.H nm = none) :
    Does P n F Γ0 w0 (s.app o.dst (.ns nm E 0 l.toNat c.toNat) [(nm, .blk (List.replicate c.toNat zs).flatten)]) a w o := by
  have e1 := (hx ▸ ev_rep hc f1 : Rep Γ (.int k l) (a.eval x')).int_inv
  have e2 := (hy ▸ ev_rep hc f2 : Rep Γ (.int k' c) (a.eval y')).int_inv
  have hc24 : c ≤ 2 ^ 24 := by
    have : c * 1 ≤ c * E := Int.mul_le_mul_of_nonneg_left (by omega) (by omega)
    omega
  have hw1 := wrap_small (m := l) (by omega) (by omega)
  have hw2 := wrap_small (m := c) (by omega) (by omega)
  have hzc : z.cells.size = E := by
    have := (constsOk_rep hzs Γ).1
    simp at this; omega
  have hb : (i.bytes : Int) * c ≤ 2 ^ 48 := by
    have h1 : (i.bytes : Int) * c ≤ 2 ^ 20 * c := Int.mul_le_mul_of_nonneg_right (by omega) (by omega)
    omega
  have hzl' := zeroCells_toList z.cells c.toNat
  have hrun : (execOp a.eval o).run P w = .ok (.value (.slice (some ⟨w.heap.size, 0, none⟩) l.toNat c.toNat)) (w.alloc (.cells (List.replicate c.toNat z.cells.toList).flatten.toArray e)) := by
    have hne : ¬ (c.toNat * i.size = 0) := by
      rw [hs]
      have : 0 < c.toNat * E := Nat.mul_pos (by omega) hE
      omega
    have ht1 : ¬ (c < 0) := by omega
    have ht2 : ¬ (281474976710656 < (i.bytes : Int) * c) := by omega
    have ht3 : ¬ (l < 0) := by omega
    have ht4 : ¬ (c < l) := by omega
    have hz' : (Array.range (c.toNat * i.size)).map (fun j => z.cells[j % z.cells.size]!) = (List.replicate c.toNat z.cells.toList).flatten.toArray := by
      have := zeroCells_toList z.cells c.toNat
      rw [← this]
      apply Array.ext'
      simp [Builtin.zeroCells, hs, hzc]
    simp [execOp, ho, Instr.makeSlice, e1, e2, asInt, asIntOf, run_underlying hu, typeInfo, sizeOf, hi, hw1, hw2, ht1, ht2, ht3, ht4, hne, zeroValue, hz, hz', newRow]
  have hr := zeros_rep hzs c.toNat Γ
  have h := hc.name (nm := nm) (cap := 0) (o := .blk (List.replicate c.toNat zs).flatten) (w' := w.alloc (.cells (List.replicate c.toNat z.cells.toList).flatten.toArray e)) hn (Ext.alloc (fun _ h => hc.held_lt h) _) (hc.base.alloc _) (by simp) ⟨fun p => hc.base.new (Nat.le_refl _) p, _, e, heap_alloc_new, hr⟩
  exact ⟨_, _, _, .inl hrun, h.put hd (.ns nm E 0 _ _ w.heap.size 0 (by simp [upd_same]))⟩

theorem does_clr (hc : Conc n F Γ0 w0 Γ s a w) {o : Oper} (hd : ∀ x, o.dst = some x → x < n) {E nm p len cap : Nat} {zs cs : List AV} {x : LA} {x' : Operand} {t e : TypeId} {i : TypeInfo} {z : Value} {ob : HO} {args : Array Operand} {ts : Array TypeId} (ho : o.op = .call { callee := .builtin .clear, args := args, argTypes := ts })
    (ha : args.toList = [x']) (hts : ts.toList = [t]) (f1 : fitA x' x = true) (hu : P.underlying t = some (.slice e)) (hi : P.info? e = some i) (hz : i.zero = some z) (hzs : constsOk z.cells.toList zs = true) (hzl : zs.length = E) (hx : x.ev s.fr = .ns nm E p len cap) (hH : s.H nm = some ob) (hcs : ob.cells = some cs) (hle : p + len * E ≤ cs.length) :
    Does P n F Γ0 w0 (s.app o.dst .any [(nm, ob.wr p (List.replicate len zs).flatten)]) a w o := by
  have hargs : args = #[x'] := by apply Array.ext'; simpa using ha
  have htys : ts = #[t] := by apply Array.ext'; simpa using hts
  obtain ⟨b, c, hv, hn⟩ := (hx ▸ ev_rep hc f1 : Rep Γ (.ns nm E p len cap) (a.eval x')).ns_inv
  obtain ⟨b', c', us, ty, e1, _, e3, e4, e5⟩ := hc.obj_cells hH hcs
  rw [hn] at e1; cases e1
  have hr := zeros_rep hzs len Γ
  have hfl : (List.replicate len zs).flatten.length = len * E := by simp [List.length_flatten, hzl]
  have hul : (List.replicate len z.cells.toList).flatten.length = len * E := by rw [hr.1, hfl]
  have hst := run_storeCells_cells (P := P) b p (List.replicate len z.cells.toList).flatten 0 w (fun j hj => by
    simp only [World.cell?, e3, Nat.add_zero, Option.isSome_none, Bool.false_eq_true, if_false, List.getElem?_toArray]
    rw [List.getElem?_eq_getElem (by omega)]; rfl) (fun j hj => by simp [World.frozen?, e3]) hr.2.2
  simp only [Nat.add_zero] at hst
  have hzl' := zeroCells_toList z.cells len
  refine ⟨.tuple #[], w.setCells b p (List.replicate len z.cells.toList).flatten, Γ, .inl ?_, (e5 p _ _ hr (by omega)).put hd (.any _)⟩
  by_cases h0 : len = 0
  · subst h0
    simp [execOp, ho, hargs, htys, resolve, invoke, builtin, Builtin.clear_, run_underlying hu, hv, World.setCells]
  · obtain ⟨k, rfl⟩ : ∃ k, len = k + 1 := ⟨len - 1, by omega⟩
    simp [execOp, ho, hargs, htys, resolve, invoke, builtin, Builtin.clear_, run_underlying hu, hv, zeroValue, typeInfo, hi, hz, hzl', hst]

theorem yields_six (hc : Conc n F Γ0 w0 Γ s a w) {o : Oper} {x y : LA} {x' y' : Operand} {t : TypeId} {b : ByteArray} {k : IntKind} {m : Int} (ho : o.op = .index t x' y') (f1 : fitA x' x = true) (f2 : fitA y' y = true) (hu : P.underlying t = some .string)
    (hx : x.ev s.fr = .str b) (hy : y.ev s.fr = .int k m) (h0 : 0 ≤ m) (hl : m < b.size) : Yields P Γ a w o (.int .u8 (b.data.getD m.toNat 0).toNat) := by
  have e1 := (hx ▸ ev_rep hc f1 : Rep Γ (.str b) (a.eval x')).str_inv
  have e2 := (hy ▸ ev_rep hc f2 : Rep Γ (.int k m) (a.eval y')).int_inv
  have hlt : m.toNat < b.size := by omega
  refine ⟨_, ?_, .int _ _⟩
  have : b[m.toNat]? = some (b.data.getD m.toNat 0) := by
    rw [getElem?_pos b m.toNat hlt]
    congr 1
    have hlt' : m.toNat < b.data.size := hlt
    simp only [Array.getD, dif_pos hlt']
    rfl
  simp [execOp, ho, Instr.index, e1, e2, asIntOf, run_underlying hu, h0, this]
end

end Go.Proofs.YtfhflogbffibiaaGreat

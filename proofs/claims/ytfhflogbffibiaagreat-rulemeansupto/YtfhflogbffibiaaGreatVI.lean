/-
  Operations that do more than yield: new blocks, stores.
-/
import Derived.Test.YtfhflogbffibiaaGreatVH
namespace Go.Proofs.YtfhflogbffibiaaGreat
open Go
set_option linter.unusedSimpArgs false
set_option linter.unusedVariables false

theorem Base.new {Γ : RO} {w : World} (h : Base Γ w) {b : Nat} (hb : w.heap.size ≤ b) (o : Nat) : Γ.g b o = none := by
  cases hv : Γ.g b o with
  | none => rfl
  | some v =>
    have := h b o v hv
    simp [World.cell?, Array.getElem?_eq_none hb] at this

theorem heap_alloc_lt {w : World} {o : Obj} {b : Nat} (h : b < w.heap.size) : (w.alloc o).heap[b]? = w.heap[b]? := by
  simp only [World.alloc, Array.getElem?_push]; rw [if_neg (by omega)]
theorem heap_alloc_new {w : World} {o : Obj} : (w.alloc o).heap[w.heap.size]? = some o := by
  show (w.heap.push o)[w.heap.size]? = some o
  simp

theorem Base.alloc {Γ : RO} {w : World} (h : Base Γ w) (o : Obj) : Base Γ (w.alloc o) := fun b p v hv => by
  have h1 := h b p v hv
  rw [World.cell?_alloc_lt _ _ _ (World.block_lt_of_cell? w _ h1)]; exact h1

theorem Ext.alloc {G : Nat → Prop} {Γ : RO} {w : World} (hG : ∀ b, G b → b < w.heap.size) (o : Obj) : Ext G Γ w Γ (w.alloc o) :=
  ⟨fun b hb => heap_alloc_lt (hG b hb), fun _ _ _ => rfl, .rfl, by simp, rfl, rfl, rfl⟩

theorem Base.drew {Γ : RO} {w : World} (h : Base Γ w) : Base Γ w.drew := h
theorem Ext.drew {G : Nat → Prop} {Γ : RO} {w : World} : Ext G Γ w Γ w.drew := ⟨fun _ _ => rfl, fun _ _ _ => rfl, .rfl, Nat.le_refl _, rfl, rfl, rfl⟩

/-- A block's cells made read-only. -/
def RO.add (Γ : RO) (b : Nat) (vs : List Value) : RO := { g := fun c o => if c = b then vs[o]? else Γ.g c o, nu := Γ.nu }

theorem RO.add_le {Γ : RO} {b : Nat} {vs : List Value} (h : ∀ o, Γ.g b o = none) : RO.le Γ (Γ.add b vs) := ⟨fun c o v hv => by
  unfold RO.add
  show (if c = b then vs[o]? else Γ.g c o) = some v
  split
  · rename_i e; subst e; rw [h] at hv; cases hv
  · exact hv, fun _ _ h => h⟩

theorem heap_setCell {w : World} {b o : Nat} {v : Value} {us : List Value} {ty : TypeId} {fz : Nat × Nat} (h : w.heap[b]? = some (.cells us.toArray ty fz)) : (w.setCell ⟨b, o, none⟩ v).heap[b]? = some (.cells (us.set o v).toArray ty fz) := by
  simp [World.setCell, Array.getElem?_modify, h]
theorem heap_setCell_ne {w : World} {b c o : Nat} {v : Value} (h : c ≠ b) : (w.setCell ⟨b, o, none⟩ v).heap[c]? = w.heap[c]? := by
  simp [World.setCell, Array.getElem?_modify, Ne.symm h]

theorem heap_setCells_ne {b c : Nat} (h : c ≠ b) : ∀ (vs : List Value) (o : Nat) (w : World), (w.setCells b o vs).heap[c]? = w.heap[c]?
  | [], _, _ => rfl
  | v :: r, o, w => by rw [World.setCells, heap_setCells_ne h r, heap_setCell_ne h]

theorem wrVals_cons (us : List Value) (o : Nat) (v : Value) (r : List Value) (h : o + (r.length + 1) ≤ us.length) : wrVals (us.set o v) (o + 1) r = wrVals us o (v :: r) := by
  have hk : o < us.length := by omega
  simp only [wrVals, List.length_cons]
  rw [List.take_set, List.drop_set, if_pos (by omega), List.take_succ_eq_append_getElem hk, List.set_append_right _ _ (by simp [Nat.min_le_left])]
  simp only [List.length_take]
  rw [show min o us.length = o by omega]
  simp [show o + 1 + r.length = o + (r.length + 1) by omega]

theorem heap_setCells {b : Nat} {ty : TypeId} {fz : Nat × Nat} : ∀ (vs : List Value) (o : Nat) (w : World) (us : List Value), w.heap[b]? = some (.cells us.toArray ty fz) → o + vs.length ≤ us.length →
    (w.setCells b o vs).heap[b]? = some (.cells (wrVals us o vs).toArray ty fz)
  | [], o, w, us, h, _ => by simpa [World.setCells, wrVals] using h
  | v :: r, o, w, us, h, hl => by
    simp only [List.length_cons] at hl
    rw [World.setCells, heap_setCells r (o + 1) _ (us.set o v) (heap_setCell h) (by simp; omega), wrVals_cons us o v r (by omega)]

theorem setCells_rest (b : Nat) : ∀ (vs : List Value) (o : Nat) (w : World), (w.setCells b o vs).heap.size = w.heap.size ∧ (w.setCells b o vs).tape = w.tape ∧ (w.setCells b o vs).os = w.os ∧ (w.setCells b o vs).output = w.output
  | [], _, _ => ⟨rfl, rfl, rfl, rfl⟩
  | v :: r, o, w => by
    rw [World.setCells]
    obtain ⟨h1, h2, h3, h4⟩ := setCells_rest b r (o + 1) (w.setCell ⟨b, o, none⟩ v)
    exact ⟨h1.trans (by simp), h2, h3, h4⟩

theorem Ext.setCells {G : Nat → Prop} {Γ : RO} {w : World} {b : Nat} (hb : ¬ G b) (vs : List Value) (o : Nat) : Ext G Γ w Γ (w.setCells b o vs) := by
  obtain ⟨h1, h2, h3, h4⟩ := setCells_rest b vs o w
  exact ⟨fun c hc => heap_setCells_ne (fun e => hb (by rw [← e]; exact hc)) vs o w, fun _ _ _ => rfl, .rfl, by rw [h1]; exact Nat.le_refl _, h2, h3, h4⟩

theorem Base.setCells {Γ : RO} {w : World} (h : Base Γ w) {b : Nat} (hb : ∀ o, Γ.g b o = none) (vs : List Value) (o : Nat) : Base Γ (w.setCells b o vs) := fun c p v hv => by
  rw [World.cell?_setCells_out b vs o w ⟨c, p, none⟩ (fun e _ => by simp at e; subst e; rw [hb] at hv; cases hv)]
  exact h c p v hv

section
variable {P : Program} {n : Nat} {F : Nat → Prop} {Γ0 : RO} {w0 : World} {Γ : RO} {s : St} {a : Act} {w : World}

theorem Conc.alloc (hc : Conc n F Γ0 w0 Γ s a w) (o : Obj) : Conc n F Γ0 w0 Γ s a (w.alloc o) := hc.world (Ext.alloc (fun _ h => hc.held_lt h) o) (hc.base.alloc o) (fun _ h => h)
theorem Conc.drew (hc : Conc n F Γ0 w0 Γ s a w) : Conc n F Γ0 w0 Γ s a w.drew := hc.world Ext.drew hc.base.drew (fun _ h => h)

/-- A new block gets a name. -/
theorem Conc.name (hc : Conc n F Γ0 w0 Γ s a w) {nm cap : Nat} {o : HO} {w' : World} (hn : s.H nm = none) (hw : Ext (fun b => F b ∨ Held Γ s.H b) Γ w Γ w') (hb : Base Γ w') (hsz : w.heap.size < w'.heap.size) (ho : HORep Γ w' w.heap.size cap o) :
    Conc n F Γ0 w0 { g := Γ.g, nu := upd Γ.nu nm (some (w.heap.size, cap)) } { s with H := upd s.H nm (some o) } a w' := by
  have hnu := hc.heap.dom nm hn
  have hle : RO.le Γ { g := Γ.g, nu := upd Γ.nu nm (some (w.heap.size, cap)) } := ⟨fun _ _ _ h => h, fun m p h => by
    by_cases e : m = nm
    · subst e; rw [hnu] at h; cases h
    · simp only [upd_ne _ _ _ e]; exact h⟩
  have hE : ∀ G : Nat → Prop, Ext G Γ w' { g := Γ.g, nu := upd Γ.nu nm (some (w.heap.size, cap)) } w' := fun G => ⟨fun _ _ => rfl, fun _ _ _ => rfl, hle, Nat.le_refl _, rfl, rfl, rfl⟩
  refine ⟨hc.defers, hc.size, hb, (hc.ext.trans (hw.weak fun _ h => .inl h)).trans (hE _), fun b h => Nat.lt_of_lt_of_le (hc.fb b h) hw.size, fun t => (hc.slots t).mono hle, fun m o' h1 h2 => ?_, fun m m' o1 o2 b c c' h1 h2 l1 l2 g1 g2 => ?_, fun m h => ?_⟩
  · by_cases e : m = nm
    · subst e
      simp only [upd_same, Option.some.injEq] at h1; subst h1
      exact ⟨w.heap.size, cap, by simp [upd_same], fun hF => Nat.lt_irrefl _ (hc.fb _ hF), hsz, ho.ext (hE fun _ => True) trivial⟩
    · simp only [upd_ne _ _ _ e] at h1
      obtain ⟨b, c, e1, e2, e3, e4⟩ := hc.heap.obj m o' h1 h2
      exact ⟨b, c, hle.nu _ _ e1, e2, Nat.lt_of_lt_of_le e3 hw.size, (e4.ext hw (.inr ⟨m, o', c, h1, h2, e1⟩)).ext (hE fun _ => True) trivial⟩
  · by_cases e : m = nm <;> by_cases e' : m' = nm
    · rw [e, e']
    · subst e
      simp only [upd_same, upd_ne _ _ _ e'] at h2 g1 g2
      obtain ⟨b', c', q1, _, q3, _⟩ := hc.heap.obj m' o2 h2 l2
      rw [g2] at q1; cases q1; cases g1
      exact absurd q3 (Nat.lt_irrefl _)
    · subst e'
      simp only [upd_same, upd_ne _ _ _ e] at h1 g1 g2
      obtain ⟨b', c', q1, _, q3, _⟩ := hc.heap.obj m o1 h1 l1
      rw [g1] at q1; cases q1; cases g2
      exact absurd q3 (Nat.lt_irrefl _)
    · simp only [upd_ne _ _ _ e, upd_ne _ _ _ e'] at h1 h2 g1 g2
      exact hc.heap.inj m m' o1 o2 b c c' h1 h2 l1 l2 g1 g2
  · by_cases e : m = nm
    · subst e; simp [upd_same] at h
    · simp only [upd_ne _ _ _ e] at h ⊢; exact hc.heap.dom m h

/-- A named object is written, or gone. -/
theorem Conc.setObj (hc : Conc n F Γ0 w0 Γ s a w) {nm b c : Nat} {o o' : HO} {w' : World} (hH : s.H nm = some o) (hl : o.live = true) (hn : Γ.nu nm = some (b, c)) (hE : Ext (fun x => x ≠ b) Γ w Γ w') (hb : Base Γ w') (ho : o'.live = true → HORep Γ w' b c o') :
    Conc n F Γ0 w0 Γ { s with H := upd s.H nm (some o') } a w' := by
  obtain ⟨b', c', e1, hF, hlt, _⟩ := hc.heap.obj nm o hH hl
  rw [hn] at e1; cases e1
  refine ⟨hc.defers, hc.size, hb, hc.ext.trans (hE.weak fun x hx e => hF (e ▸ hx)), fun x h => Nat.lt_of_lt_of_le (hc.fb x h) hE.size, fun t => (hc.slots t).mono hE.mono, fun m q h1 h2 => ?_, fun m m' o1 o2 x y y' h1 h2 l1 l2 g1 g2 => ?_, fun m h => ?_⟩
  · by_cases e : m = nm
    · subst e
      simp only [upd_same, Option.some.injEq] at h1; subst h1
      exact ⟨b, c, hn, hF, Nat.lt_of_lt_of_le hlt hE.size, ho h2⟩
    · simp only [upd_ne _ _ _ e] at h1
      obtain ⟨x, y, q1, q2, q3, q4⟩ := hc.heap.obj m q h1 h2
      refine ⟨x, y, q1, q2, Nat.lt_of_lt_of_le q3 hE.size, q4.ext hE fun ex => ?_⟩
      subst ex
      exact e (hc.heap.inj m nm q o x y c h1 hH h2 hl q1 hn)
  · have old : ∀ m q, upd s.H nm (some o') m = some q → q.live = true → ∃ q', s.H m = some q' ∧ q'.live = true := fun m q h h' => by
      by_cases e : m = nm
      · subst e; exact ⟨o, hH, hl⟩
      · simp only [upd_ne _ _ _ e] at h; exact ⟨q, h, h'⟩
    obtain ⟨q1, r1, r2⟩ := old m o1 h1 l1
    obtain ⟨q2, r3, r4⟩ := old m' o2 h2 l2
    exact hc.heap.inj m m' q1 q2 x y y' r1 r3 r2 r4 g1 g2
  · by_cases e : m = nm
    · subst e; simp [upd_same] at h
    · simp only [upd_ne _ _ _ e] at h; exact hc.heap.dom m h

/-- What an operation comes to. -/
def Does (P : Program) (n : Nat) (F : Nat → Prop) (Γ0 : RO) (w0 : World) (s' : St) (a : Act) (w : World) (o : Oper) : Prop :=
  ∃ v w' Γ', ((execOp a.eval o).run P w = .ok (.value v) w' ∨ ((execOp a.eval o).run P w = .ok .skip w' ∧ v = undef)) ∧ Conc n F Γ0 w0 Γ' s' (a.put o.dst v) w'

theorem does_yields (hc : Conc n F Γ0 w0 Γ s a w) {o : Oper} (hd : ∀ x, o.dst = some x → x < n) {av : AV} (h : Yields P Γ a w o av) : Does P n F Γ0 w0 (s.app o.dst av []) a w o := by
  obtain ⟨v, h1, h2⟩ := h
  exact ⟨v, w, Γ, .inl h1, hc.put hd h2⟩

/-- A new block of these cells. -/
theorem does_new (hc : Conc n F Γ0 w0 Γ s a w) {o : Oper} (hd : ∀ x, o.dst = some x → x < n) {nm : Nat} {cs : List AV} {vs : List Value} {ty : TypeId} (hn : s.H nm = none) (hr : CellsRep Γ cs vs)
    (hrun : (execOp a.eval o).run P w = .ok (.value (.pointer (some ⟨w.heap.size, 0, none⟩))) (w.alloc (.cells vs.toArray ty))) : Does P n F Γ0 w0 (s.app o.dst (.np nm 0) [(nm, .blk cs)]) a w o := by
  have h := hc.name (cap := 0) (o := .blk cs) (w' := w.alloc (.cells vs.toArray ty)) hn (Ext.alloc (fun _ h => hc.held_lt h) _) (hc.base.alloc _) (by simp) ⟨fun p => hc.base.new (Nat.le_refl _) p, vs, ty, heap_alloc_new, hr⟩
  exact ⟨_, _, _, .inl hrun, h.put hd (.np nm 0 w.heap.size 0 (by simp [upd_same]))⟩

theorem does_alloc (hc : Conc n F Γ0 w0 Γ s a w) {o : Oper} (hd : ∀ x, o.dst = some x → x < n) {zs : List AV} {t : TypeId} {nm : Nat} (ho : o.op = .alloc t) (hz : zeroIs P t zs = true) (hn : s.H nm = none) :
    Does P n F Γ0 w0 (s.app o.dst (.np nm 0) [(nm, .blk zs)]) a w o := by
  obtain ⟨i, z, hi, hz1, hz2⟩ := zeroIs_some hz
  refine does_new hc hd (ty := t) hn (constsOk_rep hz2 Γ) ?_
  rw [Array.toArray_toList]
  simp [execOp, ho, Instr.alloc, zeroValue, typeInfo, hi, hz1, newVar, newRow]

theorem does_box (hc : Conc n F Γ0 w0 Γ s a w) {o : Oper} (hd : ∀ x, o.dst = some x → x < n) {x : LA} {y : Operand} {cs : List AV} {t : TypeId} {nm : Nat} (ho : o.op = .box t y) (hf : fitA y x = true) (hcs : (x.ev s.fr).cells = some cs) (hn : s.H nm = none) :
    Does P n F Γ0 w0 (s.app o.dst (.np nm 0) [(nm, .blk cs)]) a w o := by
  refine does_new hc hd (ty := t) hn (cells_rep (ev_rep hc hf) hcs) ?_
  rw [Array.toArray_toList]
  simp [execOp, ho, Instr.box, newVar, newRow]

/-- A store, run. -/
theorem store_run {t : TypeId} {b o m : Nat} {v : Value} {us : List Value} (hsz : sizeIs P t m = true) (hv : v.cells.toList = us) (hm : us.length = m) (h1 : ∀ u ∈ us, u.oneCell' = true) {ws : List Value} {ty : TypeId}
    (hb : w.heap[b]? = some (.cells ws.toArray ty (0, 0))) (hl : o + m ≤ ws.length) : (Instr.storeAt t (.pointer (some ⟨b, o, none⟩)) v).run P w = .ok () (w.setCells b o us) := by
  obtain ⟨i, hi, hs⟩ := sizeIs_some hsz
  have hst := run_storeCells_cells (P := P) b o us 0 w (fun j hj => by simp [World.cell?, hb]; omega) (fun j hj => by simp [World.frozen?, hb]) h1
  simp only [Nat.add_zero] at hst
  have hc : v.cells.size = i.size := by rw [← Array.length_toList, hv, hm, hs]
  simp [Instr.storeAt, Instr.sureAddr, storeVar, sizeOf, typeInfo, hi, hc, hv, hst]


theorem chunk_flatten {E : Nat} : ∀ (k : Nat) (cs : List AV), cs.length = k * E → (chunk E k cs).flatten = cs ∧ (∀ x ∈ chunk E k cs, x.length = E) ∧ (chunk E k cs).length = k
  | 0, cs, h => by
    have : cs = [] := List.length_eq_zero_iff.1 (by simpa using h)
    subst this; simp [chunk]
  | k + 1, cs, h => by
    rw [Nat.add_mul] at h
    obtain ⟨h1, h2, h3⟩ := chunk_flatten (E := E) k (cs.drop E) (by rw [List.length_drop]; omega)
    refine ⟨by simp [chunk, h1], fun x hx => ?_, by simp [chunk, h3]⟩
    simp only [chunk, List.mem_cons] at hx
    rcases hx with rfl | hx
    · simp; omega
    · exact h2 x hx

theorem wrCells_length (cs vs : List AV) (o : Nat) (h : o + vs.length ≤ cs.length) : (wrCells cs o vs).length = cs.length := by
  simp [wrCells]; omega

theorem flatten_len {E : Nat} : ∀ {ys : List (List AV)}, (∀ y ∈ ys, y.length = E) → ys.flatten.length = ys.length * E
  | [], _ => by simp
  | y :: ys, h => by
    rw [List.flatten_cons, List.length_append, h y (by simp), flatten_len (fun z hz => h z (by simp [hz])), List.length_cons, Nat.add_mul]; omega

/-- A named object's block, its cells in memory, and what a write into them leaves. -/
theorem Conc.obj_cells (hc : Conc n F Γ0 w0 Γ s a w) {nm : Nat} {o : HO} {cs : List AV} (hH : s.H nm = some o) (hcs : o.cells = some cs) :
    ∃ (b c : Nat) (ws : List Value) (ty : TypeId), Γ.nu nm = some (b, c) ∧ o.live = true ∧ w.heap[b]? = some (.cells ws.toArray ty (0, 0)) ∧ cs.length ≤ ws.length ∧
      ∀ (p : Nat) (vs : List AV) (us : List Value), CellsRep Γ vs us → p + vs.length ≤ cs.length → Conc n F Γ0 w0 Γ { s with H := upd s.H nm (some (o.wr p vs)) } a (w.setCells b p us) := by
  have hl : o.live = true := by cases o <;> first | rfl | cases hcs
  obtain ⟨b, c, e1, e2, e3, e4⟩ := hc.heap.obj nm o hH hl
  cases o with
  | dead => cases hcs
  | blk ds =>
    simp only [HO.cells, Option.some.injEq] at hcs; subst hcs
    obtain ⟨g1, ws, ty, g2, g3⟩ := e4
    refine ⟨b, c, ws, ty, e1, hl, g2, by rw [g3.1]; exact Nat.le_refl _, fun p vs us hv hle => ?_⟩
    refine hc.setObj hH hl e1 (Ext.setCells (fun h => h rfl) us p) (hc.base.setCells g1 us p) fun _ => ?_
    exact ⟨g1, wrVals ws p us, ty, heap_setCells us p w ws g2 (by rw [g3.1, hv.1]; exact hle), g3.wr hv p⟩
  | gro E xs =>
    simp only [HO.cells, Option.some.injEq] at hcs; subst hcs
    obtain ⟨hE, hcap, g1, ws, rest, ty, g2, g3, g4, g5⟩ := e4
    refine ⟨b, c, ws ++ rest, ty, e1, hl, g2, by simp [g3.1], fun p vs us hv hle => ?_⟩
    refine hc.setObj hH hl e1 (Ext.setCells (fun h => h rfl) us p) (hc.base.setCells g1 us p) fun _ => ?_
    have hlen : p + us.length ≤ ws.length := by rw [g3.1, hv.1]; exact hle
    obtain ⟨k1, k2, k3⟩ := chunk_flatten (E := E) xs.length (wrCells xs.flatten p vs) (by rw [wrCells_length _ _ _ hle, flatten_len hE])
    refine ⟨k2, by rw [k3]; exact hcap, g1, wrVals ws p us, rest, ty, ?_, by rw [k1]; exact g3.wr hv p, by rw [k3]; exact g4, g5⟩
    rw [heap_setCells us p w (ws ++ rest) g2 (by simp; omega)]
    congr 3
    simp only [wrVals]
    rw [List.take_append_of_le_length (by omega), List.drop_append_of_le_length (by omega)]
    simp

theorem does_st (hc : Conc n F Γ0 w0 Γ s a w) {o : Oper} {x v : LA} {y u : Operand} {t : TypeId} {m nm p : Nat} {ob : HO} {cs vs : List AV} (ho : o.op = .store t y u) (hd : ∀ x, o.dst = some x → x < n) (f1 : fitA y x = true) (f2 : fitA u v = true) (hsz : sizeIs P t m = true)
    (hx : x.ev s.fr = .np nm p) (hv : (v.ev s.fr).cells = some vs) (hH : s.H nm = some ob) (hcs : ob.cells = some cs) (hm : vs.length = m) (hl : p + m ≤ cs.length) :
    Does P n F Γ0 w0 (s.app o.dst .any [(nm, ob.wr p vs)]) a w o := by
  obtain ⟨b, c, ws, ty, e1, _, e3, e4, e5⟩ := hc.obj_cells hH hcs
  obtain ⟨b', c', g1, g2⟩ := (hx ▸ ev_rep hc f1 : Rep Γ (.np nm p) (a.eval y)).np_inv
  rw [e1] at g2; cases g2
  have hr := cells_rep (ev_rep hc f2) hv
  have hrun : (Instr.storeAt t (a.eval y) (a.eval u)).run P w = .ok () (w.setCells b p (a.eval u).cells.toList) := by
    rw [g1]; exact store_run hsz rfl (by rw [hr.1, hm]) hr.2.2 e3 (by omega)
  refine ⟨undef, w.setCells b p (a.eval u).cells.toList, Γ, .inr ⟨by simp only [execOp, ho, Sem.run_bind, hrun, Result.andThen_ok, Sem.run_pure], rfl⟩, ?_⟩
  exact (e5 p vs _ hr (by rw [hm]; exact hl)).put hd (.any _)
end

end Go.Proofs.YtfhflogbffibiaaGreat

/-
  Abstract values and an abstract heap whose objects bear names; what they say of memory.
-/
import Derived.Calls
import Derived.Orders
import Derived.Deep.AppendSrc
import Derived.Deep.MidRow
import Derived.KernelRfl
namespace Go.Proofs.YtfhflogbffibiaaGreat
open Go
set_option linter.unusedSimpArgs false
set_option linter.unusedVariables false

/-- Abstract values: 'ro': a slice that nobody writes any more (E cells an element; clip: its capacity is its length), 'rp': a pointer into such memory, 'np': a pointer into a named object, 'ns': a slice of a named block, 'gs': a part of a named growing slice, up to its capacity's end, 'fn': a function with what it has captured. -/
inductive AV where
  | any
  | int (k : IntKind) (n : Int)
  | bool (b : Bool)
  | str (s : ByteArray)
  | raw (v : Value)
  | agg (cs : List AV)
  | tup (vs : List AV)
  | ro (E : Nat) (xs : List (List AV)) (clip : Bool)
  | rp (cs : List AV)
  | np (nm o : Nat)
  | ns (nm E o len cap : Nat)
  | gs (nm E off len : Nat)
  | fn (f : Nat) (caps : List AV)

/-- Named objects: a block of cells; a slice with room of its own behind it; one that is gone. -/
inductive HO where
  | blk (cs : List AV)
  | gro (E : Nat) (xs : List (List AV))
  | dead

/-- g: the cells that nobody writes any more; nu: a name's block, and the capacity of a growing slice. -/
structure RO where
  g : Nat → Nat → Option Value
  nu : Nat → Option (Nat × Nat)

structure RO.le (Γ Γ' : RO) : Prop where
  g : ∀ b o v, Γ.g b o = some v → Γ'.g b o = some v
  nu : ∀ nm p, Γ.nu nm = some p → Γ'.nu nm = some p

theorem RO.le.rfl {Γ : RO} : RO.le Γ Γ := ⟨fun _ _ _ h => h, fun _ _ h => h⟩
theorem RO.le.trans {Γ Γ' Γ'' : RO} (h : RO.le Γ Γ') (h' : RO.le Γ' Γ'') : RO.le Γ Γ'' := ⟨fun b o v e => h'.g _ _ _ (h.g b o v e), fun nm p e => h'.nu _ _ (h.nu nm p e)⟩

inductive Rep (Γ : RO) : AV → Value → Prop where
  | any (v) : Rep Γ .any v
  | int (k n) : Rep Γ (.int k n) (.int k n)
  | bool (b) : Rep Γ (.bool b) (.bool b)
  | str (s) : Rep Γ (.str s) (.string s)
  | raw (v) : Rep Γ (.raw v) v
  | agg (cs : List AV) (vs : List Value) : vs.length = cs.length → (∀ (i : Nat) c v, cs[i]? = some c → vs[i]? = some v → Rep Γ c v) → (∀ v ∈ vs, v.oneCell' = true) → Rep Γ (.agg cs) (.agg vs.toArray)
  | tup (cs : List AV) (vs : List Value) : vs.length = cs.length → (∀ (i : Nat) c v, cs[i]? = some c → vs[i]? = some v → Rep Γ c v) → Rep Γ (.tup cs) (.tuple vs.toArray)
  | ro (E : Nat) (xs : List (List AV)) (clip : Bool) (b o cap : Nat) (f : Nat → Nat → Value) : (∀ x ∈ xs, x.length = E) → xs.length ≤ cap → (clip = true → cap = xs.length) →
      (∀ (i : Nat) (x : List AV) (j : Nat) c, xs[i]? = some x → x[j]? = some c → Γ.g b (o + i * E + j) = some (f i j)) → (∀ (i : Nat) (x : List AV) (j : Nat) c, xs[i]? = some x → x[j]? = some c → Rep Γ c (f i j)) → (∀ (i : Nat) (x : List AV) (j : Nat) c, xs[i]? = some x → x[j]? = some c → (f i j).oneCell' = true) →
      Rep Γ (.ro E xs clip) (.slice (some ⟨b, o, none⟩) xs.length cap)
  | ro0 (E : Nat) (clip : Bool) (a : Option Addr) (cap : Nat) : (clip = true → cap = 0) → Rep Γ (.ro E [] clip) (.slice a 0 cap)
  | rp (cs : List AV) (b o : Nat) (f : Nat → Value) : (∀ (j : Nat) c, cs[j]? = some c → Γ.g b (o + j) = some (f j)) → (∀ (j : Nat) c, cs[j]? = some c → Rep Γ c (f j)) → (∀ (j : Nat) c, cs[j]? = some c → (f j).oneCell' = true) → Rep Γ (.rp cs) (.pointer (some ⟨b, o, none⟩))
  | np (nm o b c : Nat) : Γ.nu nm = some (b, c) → Rep Γ (.np nm o) (.pointer (some ⟨b, o, none⟩))
  | ns (nm E o len cap b c : Nat) : Γ.nu nm = some (b, c) → Rep Γ (.ns nm E o len cap) (.slice (some ⟨b, o, none⟩) len cap)
  | gs (nm E off len b c : Nat) (a : Addr) : Γ.nu nm = some (b, c) → off + len ≤ c → (off < c → a = ⟨b, off * E, none⟩) → Rep Γ (.gs nm E off len) (.slice (some a) len (c - off))
  | fn (f : Nat) (cs : List AV) (vs : List Value) : vs.length = cs.length → (∀ (i : Nat) c v, cs[i]? = some c → vs[i]? = some v → Rep Γ c v) → Rep Γ (.fn f cs) (.func (.func f) #[] vs.toArray)

theorem Rep.mono {Γ Γ' : RO} (h : RO.le Γ Γ') {a : AV} {v : Value} (r : Rep Γ a v) : Rep Γ' a v := by
  induction r with
  | any v => exact .any v
  | int k n => exact .int k n
  | bool b => exact .bool b
  | str s => exact .str s
  | raw v => exact .raw v
  | agg cs vs h1 _ h3 ih => exact .agg cs vs h1 ih h3
  | tup cs vs h1 _ ih => exact .tup cs vs h1 ih
  | ro E xs clip b o cap f h1 h2 h3 h4 _ h6 ih => exact .ro E xs clip b o cap f h1 h2 h3 (fun i x j c hx hj => h.g _ _ _ (h4 i x j c hx hj)) ih h6
  | ro0 E clip a cap hc => exact .ro0 E clip a cap hc
  | rp cs b o f h1 _ h3 ih => exact .rp cs b o f (fun j c hj => h.g _ _ _ (h1 j c hj)) ih h3
  | np nm o b c h1 => exact .np nm o b c (h.nu _ _ h1)
  | ns nm E o len cap b c h1 => exact .ns nm E o len cap b c (h.nu _ _ h1)
  | gs nm E off len b c a h1 h2 h3 => exact .gs nm E off len b c a (h.nu _ _ h1) h2 h3
  | fn f cs vs h1 _ ih => exact .fn f cs vs h1 ih

/-- Cells against cells. -/
def CellsRep (Γ : RO) (cs : List AV) (vs : List Value) : Prop :=
  vs.length = cs.length ∧ (∀ (i : Nat) c v, cs[i]? = some c → vs[i]? = some v → Rep Γ c v) ∧ ∀ v ∈ vs, v.oneCell' = true

theorem CellsRep.mono {Γ Γ' : RO} (h : RO.le Γ Γ') {cs : List AV} {vs : List Value} (r : CellsRep Γ cs vs) : CellsRep Γ' cs vs :=
  ⟨r.1, fun i c v hc hv => (r.2.1 i c v hc hv).mono h, r.2.2⟩

theorem CellsRep.agg {Γ : RO} {cs : List AV} {vs : List Value} (h : CellsRep Γ cs vs) : Rep Γ (.agg cs) (.agg vs.toArray) := .agg cs vs h.1 h.2.1 h.2.2
theorem CellsRep.of_agg {Γ : RO} {cs : List AV} {v : Value} (h : Rep Γ (.agg cs) v) : ∃ vs, v = .agg vs.toArray ∧ CellsRep Γ cs vs := by
  cases h with
  | agg cs vs h1 h2 h3 => exact ⟨vs, rfl, h1, h2, h3⟩

theorem CellsRep.drop {Γ : RO} {cs : List AV} {vs : List Value} (h : CellsRep Γ cs vs) (n : Nat) : CellsRep Γ (cs.drop n) (vs.drop n) :=
  ⟨by simp [h.1], fun i c v hc hv => h.2.1 (n + i) c v (by simpa using hc) (by simpa using hv), fun v hv => h.2.2 v (List.mem_of_mem_drop hv)⟩
theorem CellsRep.take {Γ : RO} {cs : List AV} {vs : List Value} (h : CellsRep Γ cs vs) (n : Nat) : CellsRep Γ (cs.take n) (vs.take n) := by
  refine ⟨by simp [h.1], fun i c v hc hv => ?_, fun v hv => h.2.2 v (List.mem_of_mem_take hv)⟩
  rw [List.getElem?_take] at hc hv
  split at hc
  · rename_i hlt; rw [if_pos hlt] at hv; exact h.2.1 i c v hc hv
  · cases hc
theorem CellsRep.append {Γ : RO} {cs ds : List AV} {vs us : List Value} (h : CellsRep Γ cs vs) (g : CellsRep Γ ds us) : CellsRep Γ (cs ++ ds) (vs ++ us) := by
  refine ⟨by simp [h.1, g.1], fun i c v hc hv => ?_, fun v hv => ?_⟩
  · rw [List.getElem?_append] at hc hv
    rw [h.1] at hv
    split at hc
    · rename_i hlt; rw [if_pos hlt] at hv; exact h.2.1 i c v hc hv
    · rename_i hlt; rw [if_neg hlt] at hv; exact g.2.1 _ c v hc hv
  · rcases List.mem_append.1 hv with hv | hv
    · exact h.2.2 v hv
    · exact g.2.2 v hv
theorem CellsRep.nil {Γ : RO} : CellsRep Γ [] [] := ⟨rfl, fun i c v hc => by simp at hc, fun v hv => by cases hv⟩
theorem CellsRep.one {Γ : RO} {a : AV} {v : Value} (h : Rep Γ a v) (hv : v.oneCell' = true) : CellsRep Γ [a] [v] :=
  ⟨rfl, fun i c u hc hu => by
    cases i with
    | zero => simp at hc hu; subst hc; subst hu; exact h
    | succ i => simp at hc, fun u hu => by simp at hu; subst hu; exact hv⟩

/-- What is read-only lies in the world. -/
def Base (Γ : RO) (w : World) : Prop := ∀ b o v, Γ.g b o = some v → w.cell? ⟨b, o, none⟩ = some v

/-- A block that is owned whole. -/
def BlkRep (Γ : RO) (w : World) (b : Nat) (cs : List AV) : Prop :=
  (∀ o, Γ.g b o = none) ∧ ∃ vs ty, w.heap[b]? = some (.cells vs.toArray ty (0, 0)) ∧ CellsRep Γ cs vs

/-- An owned slice: its block holds the elements, then spare cells. -/
def AppRep (Γ : RO) (w : World) (b E : Nat) (xs : List (List AV)) (cap : Nat) : Prop :=
  (∀ x ∈ xs, x.length = E) ∧ xs.length ≤ cap ∧ (∀ o, Γ.g b o = none) ∧ ∃ vs rest ty, w.heap[b]? = some (.cells (vs ++ rest).toArray ty (0, 0)) ∧ CellsRep Γ xs.flatten vs ∧ rest.length = (cap - xs.length) * E ∧ ∀ v ∈ rest, v.oneCell' = true

def HORep (Γ : RO) (w : World) (b cap : Nat) : HO → Prop
  | .blk cs => BlkRep Γ w b cs
  | .gro E xs => AppRep Γ w b E xs cap
  | .dead => True

/-- From (Γ0, w0) to (Γ, w): nothing of F has changed, what was read-only is so still. -/
structure Ext (F : Nat → Prop) (Γ0 : RO) (w0 : World) (Γ : RO) (w : World) : Prop where
  keep : ∀ b, F b → w.heap[b]? = w0.heap[b]?
  keepG : ∀ b, F b → ∀ o, Γ.g b o = Γ0.g b o
  mono : RO.le Γ0 Γ
  size : w0.heap.size ≤ w.heap.size
  tape : w.tape = w0.tape
  os : w.os = w0.os
  out : w.output = w0.output

theorem Ext.refl (F : Nat → Prop) (Γ : RO) (w : World) : Ext F Γ w Γ w :=
  ⟨fun _ _ => rfl, fun _ _ _ => rfl, .rfl, Nat.le_refl _, rfl, rfl, rfl⟩

theorem Ext.trans {F : Nat → Prop} {Γ0 Γ1 Γ2 : RO} {w0 w1 w2 : World} (h : Ext F Γ0 w0 Γ1 w1) (g : Ext F Γ1 w1 Γ2 w2) : Ext F Γ0 w0 Γ2 w2 :=
  ⟨fun b hb => (g.keep b hb).trans (h.keep b hb), fun b hb o => (g.keepG b hb o).trans (h.keepG b hb o), h.mono.trans g.mono, Nat.le_trans h.size g.size,
    g.tape.trans h.tape, g.os.trans h.os, g.out.trans h.out⟩

theorem Ext.weak {F F' : Nat → Prop} {Γ0 Γ : RO} {w0 w : World} (h : Ext F' Γ0 w0 Γ w) (hF : ∀ b, F b → F' b) : Ext F Γ0 w0 Γ w :=
  ⟨fun b hb => h.keep b (hF b hb), fun b hb => h.keepG b (hF b hb), h.mono, h.size, h.tape, h.os, h.out⟩

theorem BlkRep.ext {F : Nat → Prop} {Γ0 Γ : RO} {w0 w : World} (h : Ext F Γ0 w0 Γ w) {b : Nat} {cs : List AV} (hb : F b) (r : BlkRep Γ0 w0 b cs) : BlkRep Γ w b cs :=
  ⟨fun o => (h.keepG b hb o).trans (r.1 o), let ⟨vs, ty, h1, h2⟩ := r.2; ⟨vs, ty, (h.keep b hb).trans h1, h2.mono h.mono⟩⟩

theorem AppRep.ext {F : Nat → Prop} {Γ0 Γ : RO} {w0 w : World} (h : Ext F Γ0 w0 Γ w) {b E cap : Nat} {xs : List (List AV)} (hb : F b) (r : AppRep Γ0 w0 b E xs cap) : AppRep Γ w b E xs cap :=
  ⟨r.1, r.2.1, fun o => (h.keepG b hb o).trans (r.2.2.1 o), let ⟨vs, rest, ty, h1, h2, h3, h4⟩ := r.2.2.2; ⟨vs, rest, ty, (h.keep b hb).trans h1, h2.mono h.mono, h3, h4⟩⟩

theorem HORep.ext {F : Nat → Prop} {Γ0 Γ : RO} {w0 w : World} (h : Ext F Γ0 w0 Γ w) {b cap : Nat} {o : HO} (hb : F b) (r : HORep Γ0 w0 b cap o) : HORep Γ w b cap o := by
  cases o with
  | blk cs => exact BlkRep.ext h hb r
  | gro E xs => exact AppRep.ext h hb r
  | dead => trivial

theorem BlkRep.lt {Γ : RO} {w : World} {b : Nat} {cs : List AV} (h : BlkRep Γ w b cs) : b < w.heap.size := by
  obtain ⟨_, vs, ty, h1, _⟩ := h
  exact (Array.getElem?_eq_some_iff.1 h1).1

abbrev Heap := Nat → Option HO

def HO.live : HO → Bool
  | .dead => false
  | _ => true

/-- The named objects. -/
structure HeapRep (Γ : RO) (w : World) (F : Nat → Prop) (H : Heap) : Prop where
  obj : ∀ nm o, H nm = some o → o.live = true → ∃ b c, Γ.nu nm = some (b, c) ∧ ¬ F b ∧ b < w.heap.size ∧ HORep Γ w b c o
  inj : ∀ nm nm' o o' b c c', H nm = some o → H nm' = some o' → o.live = true → o'.live = true → Γ.nu nm = some (b, c) → Γ.nu nm' = some (b, c') → nm = nm'
  dom : ∀ nm, H nm = none → Γ.nu nm = none

/-- The blocks that live objects lie in. -/
def Held (Γ : RO) (H : Heap) (b : Nat) : Prop := ∃ nm o c, H nm = some o ∧ o.live = true ∧ Γ.nu nm = some (b, c)

theorem HeapRep.ext {Γ Γ' : RO} {w w' : World} {F : Nat → Prop} {H : Heap} (h : HeapRep Γ w F H) (he : Ext (fun b => F b ∨ Held Γ H b) Γ w Γ' w') (hd : ∀ nm, Γ.nu nm = none → Γ'.nu nm = none) : HeapRep Γ' w' F H := by
  refine ⟨fun nm o ho hl => ?_, fun nm nm' o o' b c c' h1 h2 l1 l2 g1 g2 => ?_, fun nm hn => hd nm (h.dom nm hn)⟩
  · obtain ⟨b, c, h1, h2, h3, h4⟩ := h.obj nm o ho hl
    exact ⟨b, c, he.mono.nu _ _ h1, h2, Nat.lt_of_lt_of_le h3 he.size, h4.ext he (.inr ⟨nm, o, c, ho, hl, h1⟩)⟩
  · obtain ⟨b1, c1, e1, _⟩ := h.obj nm o h1 l1
    obtain ⟨b2, c2, e2, _⟩ := h.obj nm' o' h2 l2
    have q1 := he.mono.nu _ _ e1; have q2 := he.mono.nu _ _ e2
    rw [g1] at q1; rw [g2] at q2
    simp only [Option.some.injEq, Prod.mk.injEq] at q1 q2
    exact h.inj nm nm' o o' b c1 c2 h1 h2 l1 l2 (q1.1 ▸ e1) (q2.1 ▸ e2)

def upd {α : Type} (f : Nat → α) (d : Nat) (v : α) : Nat → α := fun t => if t = d then v else f t
theorem upd_same {α : Type} (f : Nat → α) (d : Nat) (v : α) : upd f d v d = v := by simp [upd]
theorem upd_ne {α : Type} (f : Nat → α) (d : Nat) (v : α) {t : Nat} (h : t ≠ d) : upd f d v t = f t := by simp [upd, h]

structure St where
  fr : Nat → AV
  H : Heap

/-- Objects written. -/
def updH (H : Heap) : List (Nat × HO) → Heap
  | [] => H
  | (nm, o) :: r => updH (upd H nm (some o)) r

def updF (fr : Nat → AV) (d : Option Nat) (v : AV) : Nat → AV :=
  match d with
  | none => fr
  | some d => upd fr d v

/-- An operation's outcome laid down. -/
def St.app (s : St) (d : Option Nat) (v : AV) (ws : List (Nat × HO)) : St := { fr := updF s.fr d v, H := updH s.H ws }

/-- An abstract state against a frame and a world; F: the callers' blocks. -/
structure Conc (n : Nat) (F : Nat → Prop) (Γ0 : RO) (w0 : World) (Γ : RO) (s : St) (a : Act) (w : World) : Prop where
  defers : a.defers = []
  size : a.tmps.size = n
  base : Base Γ w
  ext : Ext F Γ0 w0 Γ w
  fb : ∀ b, F b → b < w.heap.size
  slots : ∀ t, Rep Γ (s.fr t) (a.tmps.getD t undef)
  heap : HeapRep Γ w F s.H

theorem getD_put_same {a : Act} {d : Nat} {v : Value} (h : d < a.tmps.size) : (a.put (some d) v).tmps.getD d undef = v := by
  simp [Act.put, Array.getD, h]
theorem getD_put_ne {a : Act} {d t : Nat} {v : Value} (h : t ≠ d) : (a.put (some d) v).tmps.getD t undef = a.tmps.getD t undef := by
  simp [Act.put, Array.getD_eq_getD_getElem?, Array.getElem?_setIfInBounds_ne (Ne.symm h)]

section
variable {n : Nat} {F : Nat → Prop} {Γ0 : RO} {w0 : World} {Γ : RO} {s : St} {a : Act} {w : World}

/-- A slot written. -/
theorem Conc.put (hc : Conc n F Γ0 w0 Γ s a w) {d : Option Nat} (hd : ∀ x, d = some x → x < n) {av : AV} {v : Value} (hr : Rep Γ av v) : Conc n F Γ0 w0 Γ { s with fr := updF s.fr d av } (a.put d v) w := by
  cases d with
  | none => exact hc
  | some d =>
    have hsz : d < a.tmps.size := by rw [hc.size]; exact hd d rfl
    refine ⟨hc.defers, by simpa [Act.put] using hc.size, hc.base, hc.ext, hc.fb, fun t => ?_, hc.heap⟩
    by_cases e : t = d
    · subst e; simp only [updF, upd_same]; rw [getD_put_same hsz]; exact hr
    · simp only [updF, upd_ne _ _ _ e]; rw [getD_put_ne e]; exact hc.slots t

/-- The world has moved on, but not in what this frame stands on. -/
theorem Conc.world {Γ' : RO} {w' : World} (hc : Conc n F Γ0 w0 Γ s a w) (he : Ext (fun b => F b ∨ Held Γ s.H b) Γ w Γ' w') (hb : Base Γ' w') (hd : ∀ nm, Γ.nu nm = none → Γ'.nu nm = none) :
    Conc n F Γ0 w0 Γ' s a w' :=
  ⟨hc.defers, hc.size, hb, hc.ext.trans (he.weak fun _ h => .inl h), fun b h => Nat.lt_of_lt_of_le (hc.fb b h) he.size, fun t => (hc.slots t).mono he.mono, hc.heap.ext he hd⟩

theorem Conc.held_lt (hc : Conc n F Γ0 w0 Γ s a w) {b : Nat} (h : F b ∨ Held Γ s.H b) : b < w.heap.size := by
  rcases h with h | ⟨nm, o, c, h1, h2, h3⟩
  · exact hc.fb b h
  · obtain ⟨b', c', g1, _, g3, _⟩ := hc.heap.obj nm o h1 h2
    rw [h3] at g1; cases g1; exact g3
end

end Go.Proofs.YtfhflogbffibiaaGreat

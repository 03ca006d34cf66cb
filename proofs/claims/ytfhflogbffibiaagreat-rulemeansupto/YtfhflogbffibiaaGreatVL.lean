/-
  append.
-/
import Derived.Test.YtfhflogbffibiaaGreatVJ
namespace Go.Proofs.YtfhflogbffibiaaGreat
open Go
set_option linter.unusedSimpArgs false
set_option linter.unusedVariables false

/-- What is appended: how the model's append runs with it. -/
structure SrcW (P : Program) (t tx ty e : TypeId) (i : TypeInfo) (z : Value) (x : Value) (m : Nat) (news : List Value) (w : World) : Prop where
  room : ∀ (b off sLen sCap : Nat), sLen + m ≤ sCap → (∀ j, j < news.length → (w.cell? ⟨b, off + sLen * i.size + j, none⟩).isSome = true) → (∀ j, j < news.length → w.frozen? ⟨b, off + sLen * i.size + j, none⟩ = false) →
    (Builtin.append_ #[t, tx] ty #[.slice (some ⟨b, off, none⟩) sLen sCap, x]).run P w = .ok (.slice (some ⟨b, off, none⟩) (sLen + m) sCap) (w.setCells b (off + sLen * i.size) news)
  grow : ∀ (base : Option Addr) (sLen sCap : Nat) (olds : List Value), (Builtin.firstCells i.size sLen (.slice base sLen sCap)).run P w.drew = .ok olds.toArray w.drew → sCap < sLen + m → ((sLen + m : Nat) : Int) ≤ 9223372036854775807 → Builtin.nextslicecap (sLen + m) sCap * i.bytes ≤ 281474976710656 →
    (Builtin.append_ #[t, tx] ty #[.slice base sLen sCap, x]).run P w = .ok (.slice (some ⟨w.heap.size, 0, none⟩) (sLen + m) (grownCap w (sLen + m) sCap e)) (w.drew.alloc (.cells ((olds ++ news).toArray ++ Builtin.zeroCells z.cells (grownCap w (sLen + m) sCap e - (sLen + m))) e))
  zero : m = 0 → ∀ (base : Option Addr) (sLen sCap : Nat), sLen ≤ sCap → (Builtin.append_ #[t, tx] ty #[.slice base sLen sCap, x]).run P w = .ok (.slice base sLen sCap) w
  newsLen : news.length = m * i.size
  one : ∀ u ∈ news, u.oneCell' = true

section
variable {P : Program} {n : Nat} {F : Nat → Prop} {Γ0 : RO} {w0 : World} {Γ : RO} {s : St} {a : Act} {w : World}

theorem append_zero (t tx ty e : TypeId) (i : TypeInfo) (ht : P.underlying t = some (.slice e)) (hi : P.info? e = some i) (base : Option Addr) (sLen sCap : Nat) (x : Value) (hs : Src P i.size tx x 0 [] w) (hroom : sLen ≤ sCap) :
    (Builtin.append_ #[t, tx] ty #[.slice base sLen sCap, x]).run P w = .ok (.slice base sLen sCap) w := by
  rcases hs.kind with ⟨e', hk⟩ | hk <;> cases base <;>
    simp [Builtin.append_, run_underlying ht, run_underlying hk, sizeOf, typeInfo, hi, hs.len, hroom, hs.cells, storeCells]

theorem Src.toW {t tx ty e : TypeId} {i : TypeInfo} {z : Value} {x : Value} {m : Nat} {news : List Value} (ht : P.underlying t = some (.slice e)) (hi : P.info? e = some i) (hz : i.zero = some z) (hs : Src P i.size tx x m news w) : SrcW P t tx ty e i z x m news w :=
  ⟨fun b off sLen sCap h1 h2 h3 => run_append_room_src w t tx ty e i ht hi b off sLen sCap x m news hs h1 h2 h3,
   fun base sLen sCap olds h1 h2 h3 h4 => run_append_grow_src w t tx ty e i z ht hi hz base sLen sCap olds h1 x m news hs h2 h3 h4,
   fun h0 base sLen sCap h1 => by
    subst h0
    have hnil : news = [] := List.length_eq_zero_iff.1 (by rw [hs.newsLen]; simp)
    subst hnil
    exact append_zero t tx ty e i ht hi base sLen sCap x hs h1, hs.newsLen, hs.one⟩

/-- A slice that is appended. -/
theorem src_els (hc : Conc n F Γ0 w0 Γ s a w) {E : Nat} {y : AV} {ys : List (List AV)} {v : Value} {t e : TypeId} (hu : P.underlying t = some (.slice e)) (h : elsV s.H E y = some ys) (hr : Rep Γ y v) :
    ∃ vs, Src P E t v ys.length vs w ∧ CellsRep Γ ys.flatten vs ∧ ∀ x ∈ ys, x.length = E := by
  obtain ⟨q, cap, vs, rfl, h2, h3, h4, h5⟩ := els_open hc h hr
  have h0 : q = none → vs = [] := fun e => by
    cases vs with
    | nil => rfl
    | cons v r => obtain ⟨b, o, e', _⟩ := h5 0 v rfl; rw [e] at e'; cases e'
  exact ⟨vs, ⟨.inl ⟨e, hu⟩, fun _ => rfl, firstCells_ro h4 h5 h0, firstCells_ro (w := w.drew) h4 (fun j v hv => by simpa using h5 j v hv) h0, h4, h3.2.2⟩, h3, h2⟩

theorem exec_append {o : Oper} {x' y' : Operand} {t u : TypeId} {args : Array Operand} {ts : Array TypeId} (ho : o.op = .call { callee := .builtin .append, args := args, argTypes := ts }) (ha : args.toList = [x', y']) (hts : ts.toList = [t, u]) {v : Value} {w' : World}
    (h : (Builtin.append_ #[t, u] o.type #[a.eval x', a.eval y']).run P w = .ok v w') : (execOp a.eval o).run P w = .ok (.value v) w' := by
  have e1 : args = #[x', y'] := by apply Array.ext'; simpa using ha
  have e2 : ts = #[t, u] := by apply Array.ext'; simpa using hts
  subst e1; subst e2
  simp only [execOp, ho, resolve, invoke, builtin, Sem.run_bind, Sem.run_pure, Result.andThen_ok, List.map_toArray, List.map_cons, List.map_nil, h]

theorem fits_cap {len m cap bytes : Nat} (hpos : 0 < bytes) (hm : 0 < m) (hlt : cap < len + m) (h : (len + m) * bytes ≤ 2 ^ 40) : Builtin.nextslicecap (len + m) cap * bytes ≤ 281474976710656 ∧ ((len + m : Nat) : Int) ≤ 9223372036854775807 := by
  have h1 := nextslicecap_le (len + m) cap hlt
  have h2 : Builtin.nextslicecap (len + m) cap * bytes ≤ (2 * (len + m) + 192) * bytes := Nat.mul_le_mul_right _ h1
  have h3 : (len + m) * 1 ≤ (len + m) * bytes := Nat.mul_le_mul_left _ hpos
  have h4 : 1 * bytes ≤ (len + m) * bytes := Nat.mul_le_mul_right _ (by omega)
  have h5 : (2 * (len + m) + 192) * bytes = 2 * ((len + m) * bytes) + 192 * bytes := by rw [Nat.add_mul, Nat.mul_assoc]
  generalize (len + m) * bytes = k at *
  refine ⟨by omega, by omega⟩

/-- A new block for what grows. -/
theorem does_grow (hc : Conc n F Γ0 w0 Γ s a w) {o : Oper} (hd : ∀ x, o.dst = some x → x < n) {E bytes nm : Nat} {xs ys : List (List AV)} {x : AV} {x' y' : Operand} {t u e : TypeId} {i : TypeInfo} {z : Value} {news : List Value} {args : Array Operand} {ts : Array TypeId}
    (ho : o.op = .call { callee := .builtin .append, args := args, argTypes := ts }) (ha : args.toList = [x', y']) (hts : ts.toList = [t, u])
    (hs : i.size = E) (hby : i.bytes = bytes) (hpos : 0 < bytes) (hzs : z.cells.size = E) (hz1 : ∀ v ∈ z.cells, v.oneCell' = true)
    (hS : SrcW P t u o.type e i z (a.eval y') ys.length news w) (hnr : CellsRep Γ ys.flatten news) (hnl : ∀ x ∈ ys, x.length = E) (hy : 0 < ys.length)
    (hx : elsV s.H E x = some xs) (hxr : Rep Γ x (a.eval x')) {q : Option Addr} {len cap : Nat} (hxe : a.eval x' = .slice q len cap) (hlt : cap < xs.length + ys.length) (h40 : (xs.length + ys.length) * bytes ≤ 2 ^ 40) (hn : s.H nm = none) :
    Does P n F Γ0 w0 (s.app o.dst (.gs nm E 0 (xs.length + ys.length)) [(nm, .gro E (xs ++ ys))]) a w o := by
  obtain ⟨q', cap', olds, he, hxl, hor, hol, hcell⟩ := els_open hc hx hxr
  rw [hxe] at he
  simp only [Value.slice.injEq] at he
  obtain ⟨rfl, rfl, rfl⟩ := he
  obtain ⟨k1, k2⟩ := fits_cap hpos hy hlt h40
  rw [← hby] at k1
  have hold : (Builtin.firstCells i.size xs.length (.slice q xs.length cap)).run P w.drew = .ok olds.toArray w.drew := by
    rw [hs]
    refine firstCells_ro (w := w.drew) hol (fun j v hv => by simpa using hcell j v hv) (fun e => ?_)
    cases olds with
    | nil => rfl
    | cons v r => obtain ⟨b, o, e', _⟩ := hcell 0 v rfl; rw [e] at e'; cases e'
  have hrun := hS.grow q xs.length cap olds hold hlt k2 k1
  rw [← hxe] at hrun
  have hg := grownCap_ge w (xs.length + ys.length) cap e
  generalize grownCap w (xs.length + ys.length) cap e = c2 at hrun hg
  have hz2 : (Builtin.zeroCells z.cells (c2 - (xs.length + ys.length))).size = (c2 - (xs.length + ys.length)) * E := by rw [size_zeroCells, hzs]
  have hcd := hc.drew
  have hobj : HORep Γ (w.drew.alloc (.cells ((olds ++ news).toArray ++ Builtin.zeroCells z.cells (c2 - (xs.length + ys.length))) e)) w.drew.heap.size c2 (.gro E (xs ++ ys)) := by
    refine ⟨fun x hx => ?_, by simpa using hg, fun p => hcd.base.new (Nat.le_refl _) p, olds ++ news, (Builtin.zeroCells z.cells (c2 - (xs.length + ys.length))).toList, e, ?_, by rw [List.flatten_append]; exact hor.append hnr, by simpa using hz2, fun v hv' => ?_⟩
    · rcases List.mem_append.1 hx with hx | hx
      · exact hxl x hx
      · exact hnl x hx
    · have := heap_alloc_new (w := w.drew) (o := .cells ((olds ++ news).toArray ++ Builtin.zeroCells z.cells (c2 - (xs.length + ys.length))) e)
      refine this.trans ?_
      congr 2
      apply Array.ext'; simp
    · simp only [Builtin.zeroCells, Array.toList_map, List.mem_map, Array.toList_range] at hv'
      obtain ⟨k, hk, rfl⟩ := hv'
      have hpos : 0 < z.cells.size := by
        rcases Nat.eq_zero_or_pos z.cells.size with h | h
        · rw [h] at hk; simp at hk
        · exact h
      have hlt : k % z.cells.size < z.cells.size := Nat.mod_lt _ hpos
      rw [getElem!_pos z.cells _ hlt]
      exact hz1 _ (Array.getElem_mem hlt)
  have hcw := hcd.name (nm := nm) hn (Ext.alloc (fun _ h => hcd.held_lt h) _) (hcd.base.alloc _) (by simp) hobj
  refine ⟨_, _, _, .inl (exec_append ho ha hts hrun), hcw.put hd ?_⟩
  exact .gs nm E 0 (xs.length + ys.length) w.drew.heap.size c2 ⟨w.heap.size, 0, none⟩ (by simp [upd_same]) (by omega) (fun _ => by rw [Nat.zero_mul]; rfl)
end

end Go.Proofs.YtfhflogbffibiaaGreat

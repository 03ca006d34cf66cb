/-
  Slices made whole; what a slice's elements are in memory.
-/
import Derived.Test.YtfhflogbffibiaaGreatVI
import Derived.Laws.AppendOwn
namespace Go.Proofs.YtfhflogbffibiaaGreat
open Go
set_option linter.unusedSimpArgs false
set_option linter.unusedVariables false

theorem flatten_get {E : Nat} : ∀ {ys : List (List AV)}, (∀ y ∈ ys, y.length = E) → ∀ {i : Nat} {x : List AV} {j : Nat} {c : AV}, ys[i]? = some x → x[j]? = some c → ys.flatten[i * E + j]? = some c
  | [], _, i, x, j, c, h, _ => by simp at h
  | y :: ys, hl, 0, x, j, c, h, hj => by
    simp at h; subst h
    rw [List.flatten_cons, Nat.zero_mul, Nat.zero_add, List.getElem?_append_left (List.getElem?_eq_some_iff.1 hj).1]; exact hj
  | y :: ys, hl, i + 1, x, j, c, h, hj => by
    have hy := hl y (by simp)
    rw [List.flatten_cons, List.getElem?_append_right (by rw [hy, Nat.add_mul]; omega), hy, show (i + 1) * E + j - E = i * E + j by rw [Nat.add_mul]; omega]
    exact flatten_get (fun z hz => hl z (by simp [hz])) (by simpa using h) hj

/-- Cells that lie read-only, as a slice. -/
theorem ro_of_cells {Γ Γ' : RO} {E : Nat} {ys : List (List AV)} {vs : List Value} {b o cap : Nat} {clip : Bool} (hE : ∀ y ∈ ys, y.length = E) (hr : CellsRep Γ ys.flatten vs) (hm : RO.le Γ Γ')
    (hG : ∀ (p : Nat) v, vs[p]? = some v → Γ'.g b (o + p) = some v) (h1 : ys.length ≤ cap) (h2 : clip = true → cap = ys.length) : Rep Γ' (.ro E ys clip) (.slice (some ⟨b, o, none⟩) ys.length cap) := by
  have hget : ∀ (i : Nat) x (j : Nat) c, ys[i]? = some x → x[j]? = some c → ∃ v, vs[i * E + j]? = some v ∧ Rep Γ c v ∧ v.oneCell' = true := fun i x j c hi hj => by
    have h := flatten_get hE hi hj
    have hlt : i * E + j < vs.length := by rw [hr.1]; exact (List.getElem?_eq_some_iff.1 h).1
    exact ⟨vs[i * E + j], List.getElem?_eq_getElem hlt, hr.2.1 _ _ _ h (List.getElem?_eq_getElem hlt), hr.2.2 _ (List.getElem_mem hlt)⟩
  refine .ro E ys clip b o cap (fun i j => vs.getD (i * E + j) undef) hE h1 h2 (fun i x j c hi hj => ?_) (fun i x j c hi hj => ?_) (fun i x j c hi hj => ?_)
  all_goals
    obtain ⟨v, g1, g2, g3⟩ := hget i x j c hi hj
    simp only [List.getD_eq_getElem?_getD, g1, Option.getD_some]
  · rw [Nat.add_assoc]; exact hG _ _ g1
  · exact g2.mono hm
  · exact g3

theorem wrVals_append (us ws vs : List Value) (o : Nat) (h : o + ws.length + vs.length ≤ us.length) : wrVals (wrVals us o ws) (o + ws.length) vs = wrVals us o (ws ++ vs) := by
  simp only [wrVals]
  have h1 : (us.take o ++ ws).length = o + ws.length := by simp; omega
  rw [List.take_append_of_le_length (by rw [h1]; exact Nat.le_refl _), List.take_of_length_le (by rw [h1]; exact Nat.le_refl _)]
  rw [List.drop_append, List.drop_of_length_le (by rw [h1]; omega), h1]
  simp only [List.nil_append, List.drop_drop, List.append_assoc, List.length_append]
  rw [show o + ws.length + (o + ws.length + vs.length - (o + ws.length)) = o + (ws.length + vs.length) by omega]

theorem wrVals_whole (us vs : List Value) (h : us.length = vs.length) : wrVals us 0 vs = vs := by
  simp [wrVals, h]

theorem wrVals_length (us vs : List Value) (o : Nat) (h : o + vs.length ≤ us.length) : (wrVals us o vs).length = us.length := by
  simp [wrVals]; omega

section
variable {P : Program} {n : Nat} {F : Nat → Prop} {Γ0 : RO} {w0 : World} {Γ : RO} {s : St} {a : Act} {w : World}

theorem partsV_len {fr : Nat → AV} {E : Nat} : ∀ {ps : List LA} {ys : List (List AV)}, partsV fr E ps = some ys → ys.length = ps.length ∧ ∀ y ∈ ys, y.length = E
  | [], ys, h => by cases h; simp
  | x :: r, ys, h => by
    simp only [partsV] at h
    cases hv : (x.ev fr).cells with
    | none => rw [hv] at h; cases h
    | some vs =>
      rw [hv] at h
      simp only [Option.bind_some] at h
      split at h
      · rename_i hl
        cases hq : partsV fr E r with
        | none => rw [hq] at h; cases h
        | some zs =>
          rw [hq] at h; cases h
          obtain ⟨h1, h2⟩ := partsV_len hq
          refine ⟨by simp [h1], fun y hy => ?_⟩
          rcases List.mem_cons.1 hy with rfl | hy
          · exact hl
          · exact h2 y hy
      · cases h

theorem fillE_sound (hc : Conc n F Γ0 w0 Γ s a w) {E : Nat} : ∀ (xs : List (Nat × Operand)) (ps : List LA) (k : Nat) (us : Array Value) (ys : List (List AV)), fitElems k xs ps = true → partsV s.fr E ps = some ys → (k + ps.length) * E ≤ us.size →
    ∃ vs, Instr.fill (fun i => some (i * E, E)) us (xs.map fun (i, x) => (i, a.eval x)) = some (wrVals us.toList (k * E) vs).toArray ∧ CellsRep Γ ys.flatten vs ∧ vs.length = ps.length * E
  | [], [], k, us, ys, _, h, _ => by cases h; exact ⟨[], by simp [Instr.fill, wrVals], CellsRep.nil, by simp⟩
  | (j, x) :: xs, l :: ps, k, us, ys, hf, h, hl => by
    simp only [fitElems, Bool.and_eq_true, beq_iff_eq] at hf
    obtain ⟨⟨rfl, hf1⟩, hf2⟩ := hf
    simp only [partsV] at h
    cases hv : (l.ev s.fr).cells with
    | none => rw [hv] at h; cases h
    | some vs =>
      rw [hv] at h
      simp only [Option.bind_some] at h
      split at h
      case isFalse => cases h
      rename_i hvl
      cases hq : partsV s.fr E ps with
      | none => rw [hq] at h; cases h
      | some zs =>
        rw [hq] at h; cases h
        have hrep := cells_rep (ev_rep hc hf1) hv
        have hsz : (a.eval x).cells.size = E := by have := hrep.1; simp at this; omega
        simp only [List.length_cons] at hl
        have hmul : (j + (ps.length + 1)) * E = j * E + E + ps.length * E := by rw [Nat.add_mul, Nat.add_mul]; omega
        obtain ⟨ws, g1, g2, g3⟩ := fillE_sound hc xs ps (j + 1) (wrVals us.toList (j * E) (a.eval x).cells.toList).toArray zs hf2 hq (by
          rw [List.size_toArray, wrVals_length _ _ _ (by simp [hsz]; omega)]; rw [show j + 1 + ps.length = j + (ps.length + 1) by omega]; simpa using hl)
        refine ⟨(a.eval x).cells.toList ++ ws, ?_, by simpa using hrep.append g2, by simp [hsz, g3, Nat.add_mul]; omega⟩
        simp only [List.map_cons, Instr.fill]
        rw [if_neg (by rw [hsz]; simp; omega), ← Array.foldl_toList, Array.toList_zipIdx]
        have := foldl_set (a.eval x).cells.toList us (j * E) 0 (by simp [hsz]; omega)
        simp only [Nat.add_zero] at this
        rw [this, g1]
        congr 2
        have hE' : (j + 1) * E = j * E + (a.eval x).cells.toList.length := by rw [Nat.add_mul]; simp [hsz]
        rw [hE']
        exact wrVals_append _ _ _ _ (by simp [hsz, g3]; omega)
  | [], _ :: _, _, _, _, h, _, _ => by cases h
  | _ :: _, [], _, _, _, h, _, _ => by cases h

theorem does_mks (hc : Conc n F Γ0 w0 Γ s a w) {o : Oper} {E len : Nat} {ps : List LA} {ys : List (List AV)} {t e : TypeId} {inf : TypeInfo} {z : Value} {parts : Array (Nat × Operand)} (ho : o.op = .buildSlice t len parts) (hd : ∀ x, o.dst = some x → x < n)
    (hu : P.underlying t = some (.slice e)) (hi : P.info? e = some inf) (hz : inf.zero = some z) (hs : inf.size = E) (hlen : len = ps.length) (h24 : len * E ≤ 2 ^ 24) (hf : fitElems 0 parts.toList ps = true) (hp : partsV s.fr E ps = some ys) :
    Does P n F Γ0 w0 (s.app o.dst (.ro E ys true) []) a w o := by
  obtain ⟨hyl, hyE⟩ := partsV_len hp
  have h24' : ¬ (16777216 < len * E) := by omega
  obtain ⟨vs, g1, g2, g3⟩ := fillE_sound hc (E := E) parts.toList ps 0 ((Array.range (len * E)).map (fun i => (if len * E = 0 then (#[] : Array Value) else z.cells)[i % (if len * E = 0 then (#[] : Array Value) else z.cells).size]!)) ys hf hp (by simp [hlen])
  rw [Nat.zero_mul, wrVals_whole _ _ (by simp [g3, hlen])] at g1
  have hrun : (execOp a.eval o).run P w = .ok (.value (.slice (some ⟨w.heap.size, 0, none⟩) len len)) (w.alloc (.cells vs.toArray e)) := by
    have hpl : (parts.map fun x => (x.1, a.eval x.2)).toList = parts.toList.map fun x => (x.1, a.eval x.2) := by simp
    simp only [execOp, ho, Instr.buildSlice, Sem.run_bind, run_underlying hu, Result.andThen_ok, sizeOf, typeInfo, run_program, hi, Sem.run_pure, hs]
    rw [if_neg (by simpa using h24')]
    by_cases h0 : len * E = 0
    · simp only [h0, if_true] at g1 ⊢
      simp only [Sem.run_bind, Sem.run_pure, Result.andThen_ok, hpl]
      rw [g1]
      simp [newRow]
    · simp only [h0, if_false] at g1 ⊢
      simp only [Sem.run_bind, zeroValue, typeInfo, run_program, Result.andThen_ok, hi, hz, Sem.run_pure, hpl]
      rw [g1]
      simp [newRow]
  have hn : ∀ o, Γ.g w.heap.size o = none := hc.base.new (Nat.le_refl _)
  have hc' : Conc n F Γ0 w0 (Γ.add w.heap.size vs) s a (w.alloc (.cells vs.toArray e)) := by
    refine hc.world ⟨fun b hb => heap_alloc_lt (hc.held_lt hb), fun b hb o => ?_, RO.add_le hn, by simp, rfl, rfl, rfl⟩ (fun b o v hv => ?_) (fun _ h => h)
    · show (if b = w.heap.size then vs[o]? else Γ.g b o) = _
      rw [if_neg (by have := hc.held_lt hb; omega)]
    · change (if b = w.heap.size then vs[o]? else Γ.g b o) = some v at hv
      split at hv
      · rename_i e; subst e; rw [World.cell?_alloc_new]; simpa using hv
      · exact hc.base.alloc _ b o v hv
  have hrep : Rep (Γ.add w.heap.size vs) (.ro E ys true) (.slice (some ⟨w.heap.size, 0, none⟩) len len) := by
    rw [hlen, ← hyl]
    exact ro_of_cells hyE g2 (RO.add_le hn) (fun p v hv => by show (if w.heap.size = w.heap.size then vs[0 + p]? else _) = _; rw [if_pos rfl]; simpa using hv) (Nat.le_refl _) (fun _ => rfl)
  exact ⟨_, _, _, .inl hrun, hc'.put hd hrep⟩
end

theorem growBy_le (need : Nat) : ∀ (k c : Nat), c ≤ 2 * need + 192 → Builtin.growBy need k c ≤ 2 * need + 192
  | 0, c, h => by simpa [Builtin.growBy] using h
  | k + 1, c, h => by
    simp only [Builtin.growBy]
    split
    · exact h
    · exact growBy_le need k _ (by omega)

theorem nextslicecap_le (need old : Nat) (h : old < need) : Builtin.nextslicecap need old ≤ 2 * need + 192 := by
  unfold Builtin.nextslicecap
  split
  · omega
  · split
    · omega
    · exact growBy_le need 4 old (by omega)


theorem flatten_drop {E : Nat} : ∀ {xs : List (List AV)} (k : Nat), (∀ y ∈ xs, y.length = E) → (xs.drop k).flatten = xs.flatten.drop (k * E)
  | xs, 0, _ => by simp
  | [], k + 1, _ => by simp
  | x :: xs, k + 1, h => by
    have hx := h x (by simp)
    rw [List.drop_succ_cons, List.flatten_cons, flatten_drop k (fun z hz => h z (by simp [hz])), List.drop_append, List.drop_of_length_le (show x.length ≤ (k + 1) * E by rw [hx, Nat.add_mul]; omega), hx]
    simp only [List.nil_append]
    congr 1; rw [Nat.add_mul]; omega

theorem flatten_take {E : Nat} : ∀ {xs : List (List AV)} (k : Nat), (∀ y ∈ xs, y.length = E) → (xs.take k).flatten = xs.flatten.take (k * E)
  | xs, 0, _ => by simp
  | [], k + 1, _ => by simp
  | x :: xs, k + 1, h => by
    have hx := h x (by simp)
    rw [List.take_succ_cons, List.flatten_cons, List.flatten_cons, flatten_take k (fun z hz => h z (by simp [hz])), List.take_append, List.take_of_length_le (show x.length ≤ (k + 1) * E by rw [hx, Nat.add_mul]; omega), hx]
    congr 2; rw [Nat.add_mul]; omega

section
variable {P : Program} {n : Nat} {F : Nat → Prop} {Γ0 : RO} {w0 : World} {Γ : RO} {s : St} {a : Act} {w : World}

/-- A read-only slice in memory: its header, its cells. -/
theorem ro_open {E : Nat} {xs : List (List AV)} {clip : Bool} {u : Value} (hb : Base Γ w) (hr : Rep Γ (.ro E xs clip) u) : ∃ q cap vs, u = .slice q xs.length cap ∧ xs.length ≤ cap ∧ (clip = true → cap = xs.length) ∧ (xs ≠ [] → ∀ x ∈ xs, x.length = E) ∧
    CellsRep Γ xs.flatten vs ∧ vs.length = xs.length * E ∧ (∀ (j : Nat) v, vs[j]? = some v → ∃ b o, q = some ⟨b, o, none⟩ ∧ w.cell? ⟨b, o + j, none⟩ = some v) ∧ (xs ≠ [] → ∃ b o, q = some ⟨b, o, none⟩) := by
  cases hr with
  | ro E xs clip b o cap f h1 h2 h3 h4 h5 h6 =>
    have hex : ∃ vs : List Value, vs.length = xs.flatten.length ∧ ∀ (j : Nat) v, vs[j]? = some v → w.cell? ⟨b, o + j, none⟩ = some v ∧ (∀ c, xs.flatten[j]? = some c → Rep Γ c v) ∧ v.oneCell' = true := by
      have : ∀ m, m ≤ xs.flatten.length → ∃ vs : List Value, vs.length = m ∧ ∀ (j : Nat) v, vs[j]? = some v → w.cell? ⟨b, o + j, none⟩ = some v ∧ (∀ c, xs.flatten[j]? = some c → Rep Γ c v) ∧ v.oneCell' = true := by
        intro m
        induction m with
        | zero => exact fun _ => ⟨[], rfl, fun j v h => by simp at h⟩
        | succ m ih =>
          intro hm
          obtain ⟨vs, e1, e2⟩ := ih (by omega)
          rw [flatten_len h1] at hm
          have hE : 0 < E := by rcases Nat.eq_zero_or_pos E with h | h; (rw [h] at hm; simp at hm); exact h
          have hi : m / E < xs.length := by rw [Nat.div_lt_iff_lt_mul hE]; omega
          have hx := List.getElem?_eq_getElem hi
          have hxl := h1 _ (List.getElem_mem hi)
          have hj : m % E < xs[m / E].length := by rw [hxl]; exact Nat.mod_lt _ hE
          have hc := List.getElem?_eq_getElem hj
          have hm' : m / E * E + m % E = m := by rw [Nat.mul_comm]; exact Nat.div_add_mod m E
          have hfl := flatten_get h1 hx hc
          rw [hm'] at hfl
          refine ⟨vs ++ [f (m / E) (m % E)], by simp [e1], fun j v hv => ?_⟩
          rw [List.getElem?_append] at hv
          split at hv
          · exact e2 j v hv
          · rename_i hge
            have : j = m := by
              rcases Nat.lt_or_ge (j - vs.length) 1 with h | h
              · omega
              · rw [List.getElem?_eq_none (by simpa using h)] at hv; cases hv
            subst this
            rw [e1] at hv; simp at hv; subst hv
            refine ⟨?_, fun c hc' => ?_, h6 _ _ _ _ hx hc⟩
            · have := hb _ _ _ (h4 _ _ _ _ hx hc)
              rw [Nat.add_assoc, hm'] at this; exact this
            · rw [hfl] at hc'; cases hc'; exact h5 _ _ _ _ hx hc
      exact this _ (Nat.le_refl _)
    obtain ⟨vs, e1, e2⟩ := hex
    exact ⟨some ⟨b, o, none⟩, cap, vs, rfl, h2, h3, fun _ => h1, ⟨e1, fun i c v hc hv => (e2 i v hv).2.1 c hc, fun v hv => by obtain ⟨j, hj⟩ := List.mem_iff_getElem?.1 hv; exact (e2 j v hj).2.2⟩, by rw [e1, flatten_len h1],
      fun j v hv => ⟨b, o, rfl, (e2 j v hv).1⟩, fun _ => ⟨b, o, rfl⟩⟩
  | ro0 E clip q cap h => exact ⟨q, cap, [], rfl, by simp, h, fun h => absurd rfl h, CellsRep.nil, by simp, fun j v h => by simp at h, fun h => absurd rfl h⟩

theorem firstCells_ro {E m cap : Nat} {q : Option Addr} {vs : List Value} (hl : vs.length = m * E) (hq : ∀ (j : Nat) v, vs[j]? = some v → ∃ b o, q = some ⟨b, o, none⟩ ∧ w.cell? ⟨b, o + j, none⟩ = some v) (h0 : q = none → vs = []) :
    (Builtin.firstCells E m (.slice q m cap)).run P w = .ok vs.toArray w := by
  cases q with
  | none => rw [h0 rfl]; exact run_firstCells_none w E m m cap
  | some q => exact run_firstCells_some w E m q m cap vs hl (fun j v hv => by
      obtain ⟨b, o, e, h⟩ := hq j v hv
      cases e; rw [Addr.add_mid]; exact h)

/-- What is appended, as the kit's laws ask it. -/
theorem src_ro {E : Nat} {ys : List (List AV)} {clip : Bool} {v : Value} {t e : TypeId} (hu : P.underlying t = some (.slice e)) (hb : Base Γ w) (hr : Rep Γ (.ro E ys clip) v) : ∃ vs, Src P E t v ys.length vs w ∧ CellsRep Γ ys.flatten vs ∧ (ys ≠ [] → ∀ x ∈ ys, x.length = E) := by
  obtain ⟨q, cap, vs, rfl, h1, _, h2, h3, h4, h5, h6⟩ := ro_open (w := w) hb hr
  have h0 : q = none → vs = [] := fun e => by
    cases vs with
    | nil => rfl
    | cons v r => obtain ⟨b, o, e', _⟩ := h5 0 v rfl; rw [e] at e'; cases e'
  refine ⟨vs, ⟨.inl ⟨e, hu⟩, fun _ => rfl, firstCells_ro h4 h5 h0, firstCells_ro (w := w.drew) h4 (fun j v hv => by simpa using h5 j v hv) h0, h4, h3.2.2⟩, h3, h2⟩


theorem LiesAt.list {b : Nat} : ∀ {cs : List AV} {o : Nat}, LiesAt Γ w b o cs → ∃ vs, CellsRep Γ cs vs ∧ ∀ (j : Nat) v, vs[j]? = some v → w.cell? ⟨b, o + j, none⟩ = some v
  | [], _, _ => ⟨[], CellsRep.nil, fun j v h => by simp at h⟩
  | c :: cs, o, h => by
    obtain ⟨v, h1, h2, h3⟩ := h 0 c rfl
    obtain ⟨vs, g1, g2⟩ := LiesAt.list (cs := cs) (o := o + 1) (by simpa using h.drop 1)
    refine ⟨v :: vs, by simpa using (CellsRep.one h2 h3).append g1, fun j u hu => ?_⟩
    cases j with
    | zero => simp at hu; subst hu; exact h1
    | succ j => rw [show o + (j + 1) = o + 1 + j by omega]; exact g2 j u (by simpa using hu)

theorem LiesAt.take {b o : Nat} {cs : List AV} (h : LiesAt Γ w b o cs) (k : Nat) : LiesAt Γ w b o (cs.take k) := fun j c hj => by
  rw [List.getElem?_take] at hj
  split at hj
  · exact h j c hj
  · cases hj

/-- THE ELEMENTS OF A SLICE, in memory. -/
theorem els_open (hc : Conc n F Γ0 w0 Γ s a w) {E : Nat} {x : AV} {ys : List (List AV)} {u : Value} (h : elsV s.H E x = some ys) (hr : Rep Γ x u) : ∃ q cap vs, u = .slice q ys.length cap ∧ (∀ y ∈ ys, y.length = E) ∧
    CellsRep Γ ys.flatten vs ∧ vs.length = ys.length * E ∧ ∀ (j : Nat) v, vs[j]? = some v → ∃ b o, q = some ⟨b, o, none⟩ ∧ w.cell? ⟨b, o + j, none⟩ = some v := by
  unfold elsV at h
  split at h
  · rename_i E' zs clip
    split at h
    case isFalse => cases h
    rename_i hE
    subst hE; cases h
    obtain ⟨q, cap, vs, rfl, _, _, h2, h3, h4, h5, _⟩ := ro_open (w := w) hc.base hr
    exact ⟨q, cap, vs, rfl, fun y hy => h2 (fun e => by rw [e] at hy; cases hy) y hy, h3, h4, h5⟩
  · rename_i nm E' o len cap
    split at h
    case h_2 => cases h
    rename_i cs hcs
    split at h
    case isFalse => cases h
    rename_i hcond
    obtain ⟨rfl, hle⟩ := hcond
    cases h
    obtain ⟨b, c, rfl, hn⟩ := hr.ns_inv
    have hl := ((hc.heap.lies hcs hn).drop o).take (len * E')
    obtain ⟨vs, g1, g2⟩ := hl.list
    have htl : ((cs.drop o).take (len * E')).length = len * E' := by simp; omega
    obtain ⟨k1, k2, k3⟩ := chunk_flatten (E := E') len ((cs.drop o).take (len * E')) htl
    have hch : ∀ (k : Nat) (ds : List AV), chunk E' k ds = chunk E' k (ds.take (k * E')) := by
      intro k
      induction k with
      | zero => intro ds; rfl
      | succ k ih =>
        intro ds
        simp only [chunk]
        rw [List.take_take, Nat.min_eq_left (by rw [Nat.add_mul]; omega), List.drop_take, show (k + 1) * E' - E' = k * E' by rw [Nat.add_mul]; omega, ← ih]
    rw [hch]
    refine ⟨some ⟨b, o, none⟩, cap, vs, by rw [k3], k2, by rw [k1]; exact g1, by rw [k3, g1.1, htl], fun j v hv => ⟨b, o, rfl, ?_⟩⟩
    have := g2 j v hv
    simpa using this
  · rename_i nm E' off len
    split at h
    case h_2 => cases h
    rename_i E'' xs hH
    split at h
    case isFalse => cases h
    rename_i hcond
    obtain ⟨rfl, rfl, hle⟩ := hcond
    cases h
    obtain ⟨b, c, q, rfl, hn, hlec, hq⟩ := hr.gs_inv
    obtain ⟨b', c', e1, _, _, e4⟩ := hc.heap.obj nm _ hH rfl
    rw [hn] at e1; cases e1
    have hE := e4.1
    have hcs : cellsAt s.H nm = some xs.flatten := by simp [cellsAt, hH, HO.cells]
    have hl := ((hc.heap.lies hcs hn).drop (off * E'')).take (len * E'')
    obtain ⟨vs, g1, g2⟩ := hl.list
    have hE' : ∀ y ∈ (xs.drop off).take len, y.length = E'' := fun y hy => hE y (List.mem_of_mem_drop (List.mem_of_mem_take hy))
    have hfl : ((xs.drop off).take len).flatten = (xs.flatten.drop (off * E'')).take (len * E'') := by
      rw [flatten_take len (fun y hy => hE y (List.mem_of_mem_drop hy)), flatten_drop off hE]
    have hlen : ((xs.drop off).take len).length = len := by simp; omega
    refine ⟨some q, c - off, vs, by rw [hlen], hE', by rw [hfl]; exact g1, by rw [g1.1, ← hfl, flatten_len hE'], fun j v hv => ?_⟩
    have hlt : j < vs.length := (List.getElem?_eq_some_iff.1 hv).1
    have hvl : vs.length = len * E'' := by rw [g1.1, ← hfl, flatten_len hE', hlen]
    have hpos : 0 < len := by
      rcases Nat.eq_zero_or_pos len with h | h
      · rw [h, Nat.zero_mul] at hvl; omega
      · exact h
    refine ⟨b, off * E'', by rw [hq (by omega)], ?_⟩
    have := g2 j v hv
    simpa using this
  · cases h
end

end Go.Proofs.YtfhflogbffibiaaGreat

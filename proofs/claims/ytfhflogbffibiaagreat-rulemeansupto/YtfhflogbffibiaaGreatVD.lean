/-
  Operations that only yield.
-/
import Derived.Test.YtfhflogbffibiaaGreatVC
namespace Go.Proofs.YtfhflogbffibiaaGreat
open Go
set_option linter.unusedSimpArgs false
set_option linter.unusedVariables false

section
variable {P : Program} {n : Nat} {F : Nat → Prop} {Γ0 : RO} {w0 : World} {Γ : RO} {s : St} {a : Act} {w : World}

/-- What an operation that only yields comes to. -/
def Yields (P : Program) (Γ : RO) (a : Act) (w : World) (o : Oper) (av : AV) : Prop :=
  ∃ v, (execOp a.eval o).run P w = .ok (.value v) w ∧ Rep Γ av v

theorem sizeIs_some {t : TypeId} {m : Nat} (h : sizeIs P t m = true) : ∃ i, P.info? t = some i ∧ i.size = m := by
  unfold sizeIs at h
  split at h
  · rename_i i hi; simp at h; exact ⟨i, hi, h⟩
  · cases h

theorem elemIs_some {t : TypeId} {E : Nat} (h : elemIs P t E = true) : ∃ e i, P.underlying t = some (.slice e) ∧ P.info? e = some i ∧ i.size = E := by
  unfold elemIs at h
  split at h
  · rename_i e hu; obtain ⟨i, hi, h2⟩ := sizeIs_some h; exact ⟨e, i, hu, hi, h2⟩
  · cases h

theorem AppRep.lies {b E cap : Nat} {xs : List (List AV)} (h : AppRep Γ w b E xs cap) : LiesAt Γ w b 0 xs.flatten := by
  obtain ⟨_, _, _, vs, rest, ty, h1, ⟨h2, h3, h4⟩, _, _⟩ := h
  intro j c hj
  have hlt : j < vs.length := by rw [h2]; exact (List.getElem?_eq_some_iff.1 hj).1
  refine ⟨vs[j], ?_, h3 j c _ hj (List.getElem?_eq_getElem hlt), h4 _ (List.getElem_mem hlt)⟩
  have hq : (vs ++ rest)[j]? = some vs[j] := by rw [List.getElem?_append_left hlt]; exact List.getElem?_eq_getElem hlt
  simp only [Nat.zero_add, World.cell?, h1]
  simpa using hq

/-- A named object's cells lie in its block. -/
theorem HeapRep.lies {H : Heap} (h : HeapRep Γ w F H) {nm b c : Nat} {cs : List AV} (hc : cellsAt H nm = some cs) (hn : Γ.nu nm = some (b, c)) : LiesAt Γ w b 0 cs := by
  unfold cellsAt at hc
  cases ho : H nm with
  | none => rw [ho] at hc; cases hc
  | some o =>
    rw [ho] at hc
    simp only [Option.bind_some] at hc
    cases o with
    | blk ds =>
      simp only [HO.cells, Option.some.injEq] at hc; subst hc
      obtain ⟨b', c', e1, _, _, e4⟩ := h.obj nm _ ho rfl
      rw [hn] at e1; cases e1
      exact BlkRep.lies e4
    | gro E xs =>
      simp only [HO.cells, Option.some.injEq] at hc; subst hc
      obtain ⟨b', c', e1, _, _, e4⟩ := h.obj nm _ ho rfl
      rw [hn] at e1; cases e1
      exact AppRep.lies e4
    | dead => cases hc

theorem Rep.np_inv {nm o : Nat} {v : Value} (h : Rep Γ (.np nm o) v) : ∃ b c, v = .pointer (some ⟨b, o, none⟩) ∧ Γ.nu nm = some (b, c) := by
  cases h with
  | np _ _ b c h1 => exact ⟨b, c, rfl, h1⟩
theorem Rep.ns_inv {nm E o len cap : Nat} {v : Value} (h : Rep Γ (.ns nm E o len cap) v) : ∃ b c, v = .slice (some ⟨b, o, none⟩) len cap ∧ Γ.nu nm = some (b, c) := by
  cases h with
  | ns _ _ _ _ _ b c h1 => exact ⟨b, c, rfl, h1⟩
theorem Rep.gs_inv {nm E off len : Nat} {v : Value} (h : Rep Γ (.gs nm E off len) v) : ∃ b c a, v = .slice (some a) len (c - off) ∧ Γ.nu nm = some (b, c) ∧ off + len ≤ c ∧ (off < c → a = ⟨b, off * E, none⟩) := by
  cases h with
  | gs _ _ _ _ b c a h1 h2 h3 => exact ⟨b, c, a, rfl, h1, h2, h3⟩
theorem Rep.fn_inv {f : Nat} {cs : List AV} {v : Value} (h : Rep Γ (.fn f cs) v) : ∃ vs : List Value, v = .func (.func f) #[] vs.toArray ∧ vs.length = cs.length ∧ ∀ (i : Nat) c u, cs[i]? = some c → vs[i]? = some u → Rep Γ c u := by
  cases h with
  | fn _ _ vs h1 h2 => exact ⟨vs, rfl, h1, h2⟩

theorem yields_mv (hc : Conc n F Γ0 w0 Γ s a w) {o : Oper} {x : LA} {y : Operand} (ho : o.op = .move y ∨ o.op = .assign y) (hf : fitA y x = true) : Yields P Γ a w o (x.ev s.fr) := by
  refine ⟨a.eval y, ?_, ev_rep hc hf⟩
  rcases ho with ho | ho <;> simp [execOp, ho]

theorem yields_pick (hc : Conc n F Γ0 w0 Γ s a w) {o : Oper} {c x y : LA} {c' x' y' : Operand} {b : Bool} (ho : o.op = .pick c' x' y') (h1 : fitA c' c = true) (h2 : fitA x' x = true) (h3 : fitA y' y = true)
    (hb : c.ev s.fr = .bool b) : Yields P Γ a w o (if b then x.ev s.fr else y.ev s.fr) := by
  have hv := Rep.bool_inv (hb ▸ ev_rep hc h1 : Rep Γ (.bool b) (a.eval c'))
  refine ⟨if b then a.eval x' else a.eval y', ?_, ?_⟩
  · simp [execOp, ho, hv, asBool]
  · cases b
    · exact ev_rep hc h3
    · exact ev_rep hc h2

theorem yields_ld (hc : Conc n F Γ0 w0 Γ s a w) {o : Oper} {x : LA} {y : Operand} {t : TypeId} {m : Nat} {ag : Bool} {av : AV} (ho : o.op = .load t y) (h1 : fitA y x = true) (h2 : sizeIs P t m = true) (h3 : rowIs P t ag = true)
    (hok : ldV s.H (x.ev s.fr) m ag = some av) : Yields P Γ a w o av := by
  have key : ∀ {b q p : Nat} {cs : List AV}, a.eval y = .pointer (some ⟨b, q + p, none⟩) → LiesAt Γ w b q cs → p + m ≤ cs.length → (ag = false → m = 1) → rdCells cs p m ag = av →
      Yields P Γ a w o av := fun he hl hm h1' hv => by
    obtain ⟨v, g1, g2⟩ := load_sound (P := P) hl h2 h3 hm h1'
    refine ⟨v, ?_, hv ▸ g2⟩
    simp [execOp, ho, he, g1]
  unfold ldV at hok
  split at hok
  · rename_i cs hv
    split at hok
    · rename_i hcond
      obtain ⟨b, q, g1, g2⟩ := (hv ▸ ev_rep hc h1 : Rep Γ (.rp cs) (a.eval y)).rp_lies hc.base
      exact key (q := q) (p := 0) (by simpa using g1) g2 (by simpa using hcond.1) hcond.2 (Option.some.inj hok)
    · cases hok
  · rename_i nm q hv
    split at hok
    · rename_i cs hcs
      split at hok
      · rename_i hcond
        obtain ⟨b, c, g1, g2⟩ := (hv ▸ ev_rep hc h1 : Rep Γ (.np nm q) (a.eval y)).np_inv
        exact key (q := 0) (p := q) (by simpa using g1) (hc.heap.lies hcs g2) hcond.1 hcond.2 (Option.some.inj hok)
      · cases hok
    · cases hok
  · cases hok

theorem yields_nck (hc : Conc n F Γ0 w0 Γ s a w) {o : Oper} {x : LA} {y : Operand} (ho : o.op = .nilCheck y) (h1 : fitA y x = true) (hok : (∃ cs, x.ev s.fr = .rp cs) ∨ (∃ nm p, x.ev s.fr = .np nm p) ∨ ∃ f cs, x.ev s.fr = .fn f cs) : Yields P Γ a w o (x.ev s.fr) := by
  have hr := ev_rep hc h1
  refine ⟨a.eval y, ?_, hr⟩
  rcases hok with ⟨cs, e⟩ | ⟨nm, p, e⟩ | ⟨f, cs, e⟩ <;> rw [e] at hr
  · obtain ⟨b, q, g1, _⟩ := hr.rp_lies hc.base
    simp [execOp, ho, g1]
  · obtain ⟨b, q, g1, _⟩ := hr.np_inv
    simp [execOp, ho, g1]
  · obtain ⟨vs, g1, _⟩ := hr.fn_inv
    simp [execOp, ho, g1]

theorem yields_fa (hc : Conc n F Γ0 w0 Γ s a w) {o : Oper} {x : LA} {y : Operand} {t : TypeId} {f p : Nat} {fs : Array Field} {fd : Field} {i : TypeInfo} (ho : o.op = .fieldAddr t y f) (h1 : fitA y x = true)
    (hu : P.underlying t = some (.struct fs)) (hfd : fs[f]? = some fd) (hp : fd.offset = p) (hi : P.info? fd.type = some i) (hz : i.size ≠ 0) :
    (∀ cs, x.ev s.fr = .rp cs → Yields P Γ a w o (.rp (cs.drop p))) ∧ ∀ nm q, x.ev s.fr = .np nm q → Yields P Γ a w o (.np nm (q + p)) := by
  have run : ∀ (b q : Nat), a.eval y = .pointer (some ⟨b, q, none⟩) → (execOp a.eval o).run P w = .ok (.value (.pointer (some ⟨b, q + p, none⟩))) w := fun b q he => by
    simp [execOp, ho, he, Instr.fieldAt, run_underlying hu, hfd, Instr.sureAddr, fieldPlace, sizeOf, typeInfo, hi, hz, hp, Addr.add_mid]
  refine ⟨fun cs hv => ?_, fun nm q hv => ?_⟩
  · have hr : Rep Γ (.rp cs) (a.eval y) := hv ▸ ev_rep hc h1
    generalize he : a.eval y = u at hr
    cases hr with
    | rp cs b q g j1 j2 j3 =>
      refine ⟨_, run b q he, ?_⟩
      exact .rp _ b (q + p) (fun j => g (p + j)) (fun j c h => by rw [Nat.add_assoc]; exact j1 _ c (by simpa using h)) (fun j c h => j2 _ c (by simpa using h)) (fun j c h => j3 _ c (by simpa using h))
  · obtain ⟨b, c, g1, g2⟩ := (hv ▸ ev_rep hc h1 : Rep Γ (.np nm q) (a.eval y)).np_inv
    exact ⟨_, run b q g1, .np _ _ b c g2⟩

theorem yields_ix (hc : Conc n F Γ0 w0 Γ s a w) {o : Oper} {x i : LA} {y j : Operand} {t : TypeId} {E : Nat} {av : AV} (ho : o.op = .indexAddr t y j) (hE : elemIs P t E = true) (h1 : fitA y x = true) (h2 : fitA j i = true)
    (hok : ixV E (x.ev s.fr) (i.ev s.fr) = some av) : Yields P Γ a w o av := by
  obtain ⟨e, inf, hu, hi, hsz⟩ := elemIs_some hE
  unfold ixV at hok
  split at hok
  · rename_i E' xs clip k m hv hm
    split at hok
    case isFalse => cases hok
    rename_i hcond
    obtain ⟨rfl, h0, hlt⟩ := hcond
    cases hok
    have hj := (hm ▸ ev_rep hc h2 : Rep Γ (.int k m) (a.eval j)).int_inv
    have hr : Rep Γ (.ro E' xs clip) (a.eval y) := hv ▸ ev_rep hc h1
    generalize he : a.eval y = u at hr
    have hlt' : m.toNat < xs.length := by omega
    cases hr with
    | ro E xs clip b q cap g j1 j2 j3 j4 j5 j6 =>
      refine ⟨.pointer (some ⟨b, q + m.toNat * E', none⟩), ?_, ?_⟩
      · simp [execOp, ho, he, hj, Instr.indexAt, asIntOf, run_underlying hu, h0, hlt, sizeOf, typeInfo, hi, hsz, Addr.add_mid]
      · simp only [List.getD_eq_getElem?_getD, List.getElem?_eq_getElem hlt', Option.getD_some]
        exact .rp _ b (q + m.toNat * E') (fun j => g m.toNat j) (fun j c h => j4 _ _ j c (List.getElem?_eq_getElem hlt') h) (fun j c h => j5 _ _ j c (List.getElem?_eq_getElem hlt') h)
          (fun j c h => j6 _ _ j c (List.getElem?_eq_getElem hlt') h)
    | ro0 => simp at hlt; omega
  · rename_i nm E' q len cap k m hv hm
    split at hok
    case isFalse => cases hok
    rename_i hcond
    obtain ⟨rfl, h0, hlt⟩ := hcond
    cases hok
    have hj := (hm ▸ ev_rep hc h2 : Rep Γ (.int k m) (a.eval j)).int_inv
    obtain ⟨b, c, g1, g2⟩ := (hv ▸ ev_rep hc h1 : Rep Γ (.ns nm E' q len cap) (a.eval y)).ns_inv
    refine ⟨.pointer (some ⟨b, q + m.toNat * E', none⟩), ?_, .np _ _ b c g2⟩
    simp [execOp, ho, g1, hj, Instr.indexAt, asIntOf, run_underlying hu, h0, hlt, sizeOf, typeInfo, hi, hsz, Addr.add_mid]
  · rename_i nm E' off len k m hv hm
    split at hok
    case isFalse => cases hok
    rename_i hcond
    obtain ⟨rfl, h0, hlt⟩ := hcond
    cases hok
    have hj := (hm ▸ ev_rep hc h2 : Rep Γ (.int k m) (a.eval j)).int_inv
    obtain ⟨b, c, q, g1, g2, g3, g4⟩ := (hv ▸ ev_rep hc h1 : Rep Γ (.gs nm E' off len) (a.eval y)).gs_inv
    have hq := g4 (by omega)
    subst hq
    refine ⟨.pointer (some ⟨b, (off + m.toNat) * E', none⟩), ?_, .np _ _ b c g2⟩
    simp [execOp, ho, g1, hj, Instr.indexAt, asIntOf, run_underlying hu, h0, hlt, sizeOf, typeInfo, hi, hsz, Addr.add_mid, Nat.add_mul]
  · cases hok

theorem yields_ext (hc : Conc n F Γ0 w0 Γ s a w) {o : Oper} {x : LA} {y : Operand} {i : Nat} {cs : List AV} {av : AV} (ho : o.op = .extract y i) (h1 : fitA y x = true) (hv : x.ev s.fr = .tup cs) (hok : cs[i]? = some av) : Yields P Γ a w o av := by
  obtain ⟨vs, g1, g2, g3⟩ := (hv ▸ ev_rep hc h1 : Rep Γ (.tup cs) (a.eval y)).tup_inv
  have hlt : i < vs.length := by rw [g2]; exact (List.getElem?_eq_some_iff.1 hok).1
  refine ⟨vs[i], ?_, g3 i _ _ hok (List.getElem?_eq_getElem hlt)⟩
  simp [execOp, ho, g1, Instr.extract, hlt]

theorem yields_conv (hc : Conc n F Γ0 w0 Γ s a w) {o : Oper} {x : LA} {y : Operand} {src dst : TypeId} {k k' : IntKind} {m : Int} {d : TypeDesc} (ho : o.op = .convert src dst y) (h1 : fitA y x = true) (hs : P.underlying src = some d) (hd : P.underlying dst = some (.int k))
    (hv : x.ev s.fr = .int k' m) : Yields P Γ a w o (.int k (k.wrap m)) := by
  have g1 := (hv ▸ ev_rep hc h1 : Rep Γ (.int k' m) (a.eval y)).int_inv
  refine ⟨.int k (k.wrap m), ?_, .int _ _⟩
  simp [execOp, ho, g1, convert, run_underlying hs, run_underlying hd, Conv.intToInt]

theorem yields_un (hc : Conc n F Γ0 w0 Γ s a w) {o : Oper} {x : LA} {y : Operand} {op : UnOp} {t : TypeId} {av : AV} (ho : o.op = .unOp op t y) (h1 : fitA y x = true) (hok : unV op (x.ev s.fr) = some av) : Yields P Γ a w o av := by
  cases hv : x.ev s.fr <;> rw [hv] at hok <;> cases op <;> simp [unV] at hok
  · rename_i k m
    have g1 := (hv ▸ ev_rep hc h1 : Rep Γ (.int k m) (a.eval y)).int_inv
    subst hok
    refine ⟨.int k (k.wrap (0 - m)), ?_, ?_⟩
    · simp [execOp, ho, g1, Op.unary, Op.intArith]
    · simp only [Int.zero_sub]; exact .int _ _
  · rename_i b
    have g1 := (hv ▸ ev_rep hc h1 : Rep Γ (.bool b) (a.eval y)).bool_inv
    subst hok
    refine ⟨.bool (!b), ?_, .bool _⟩
    simp [execOp, ho, g1, Op.unary]
end

end Go.Proofs.YtfhflogbffibiaaGreat

/-
  append, all of it.
-/
import Derived.Test.YtfhflogbffibiaaGreatVL
namespace Go.Proofs.YtfhflogbffibiaaGreat
open Go
set_option linter.unusedSimpArgs false
set_option linter.unusedVariables false

theorem chunk_of_flatten {E : Nat} : ∀ {xs : List (List AV)}, (∀ y ∈ xs, y.length = E) → chunk E xs.length xs.flatten = xs
  | [], _ => rfl
  | x :: xs, h => by
    have hx := h x (by simp)
    simp only [List.length_cons, chunk, List.flatten_cons]
    rw [List.take_append, List.drop_append, List.take_of_length_le (show x.length ≤ E by omega), List.drop_of_length_le (show x.length ≤ E by omega), hx]
    simp only [Nat.sub_self, List.take_zero, List.append_nil, List.drop_zero, List.nil_append]
    rw [chunk_of_flatten fun y hy => h y (by simp [hy])]

theorem wr_flatten {E : Nat} {xs ys : List (List AV)} {k : Nat} (hx : ∀ y ∈ xs, y.length = E) (hy : ∀ y ∈ ys, y.length = E) : wrCells xs.flatten (k * E) ys.flatten = (xs.take k ++ ys ++ xs.drop (k + ys.length)).flatten := by
  simp only [wrCells, List.flatten_append]
  rw [flatten_take k hx, flatten_drop (k + ys.length) hx, flatten_len hy, Nat.add_mul]

section
variable {P : Program} {n : Nat} {F : Nat → Prop} {Γ0 : RO} {w0 : World} {Γ : RO} {s : St} {a : Act} {w : World}

/-- A live object goes over to another name. -/
theorem Conc.rename (hc : Conc n F Γ0 w0 Γ s a w) {nm nm0 b c : Nat} {o : HO} (hH : s.H nm0 = some o) (hl : o.live = true) (hn : Γ.nu nm0 = some (b, c)) (hnew : s.H nm = none) :
    Conc n F Γ0 w0 { g := Γ.g, nu := upd Γ.nu nm (some (b, c)) } { s with H := upd (upd s.H nm (some o)) nm0 (some .dead) } a w := by
  have hnu := hc.heap.dom nm hnew
  have hne : nm ≠ nm0 := fun e => by rw [e, hH] at hnew; cases hnew
  have hle : RO.le Γ { g := Γ.g, nu := upd Γ.nu nm (some (b, c)) } := ⟨fun _ _ _ h => h, fun m p h => by
    by_cases e : m = nm
    · subst e; rw [hnu] at h; cases h
    · simp only [upd_ne _ _ _ e]; exact h⟩
  have hE : ∀ G : Nat → Prop, Ext G Γ w { g := Γ.g, nu := upd Γ.nu nm (some (b, c)) } w := fun G => ⟨fun _ _ => rfl, fun _ _ _ => rfl, hle, Nat.le_refl _, rfl, rfl, rfl⟩
  -- what a live object of the new heap was
  have old : ∀ m q x y, upd (upd s.H nm (some o)) nm0 (some HO.dead) m = some q → q.live = true → upd Γ.nu nm (some (b, c)) m = some (x, y) → ∃ m0, s.H m0 = some q ∧ Γ.nu m0 = some (x, y) ∧ (m = nm ∧ m0 = nm0 ∨ m ≠ nm ∧ m0 = m ∧ m0 ≠ nm0) := fun m q x y h1 h2 h3 => by
    by_cases e0 : m = nm0
    · subst e0; simp only [upd_same, Option.some.injEq] at h1; subst h1; cases h2
    · simp only [upd_ne _ _ _ e0] at h1
      by_cases e : m = nm
      · subst e
        simp only [upd_same, Option.some.injEq] at h1 h3
        subst h1; rw [Prod.mk.injEq] at h3; obtain ⟨rfl, rfl⟩ := h3
        exact ⟨nm0, hH, hn, .inl ⟨rfl, rfl⟩⟩
      · simp only [upd_ne _ _ _ e] at h1 h3
        exact ⟨m, h1, h3, .inr ⟨e, rfl, e0⟩⟩
  refine ⟨hc.defers, hc.size, hc.base, hc.ext.trans (hE _), hc.fb, fun t => (hc.slots t).mono hle, fun m q h1 h2 => ?_, fun m m' o1 o2 x y y' h1 h2 l1 l2 g1 g2 => ?_, fun m h => ?_⟩
  · by_cases e0 : m = nm0
    · subst e0; simp only [upd_same, Option.some.injEq] at h1; subst h1; cases h2
    · simp only [upd_ne _ _ _ e0] at h1
      by_cases e : m = nm
      · subst e
        simp only [upd_same, Option.some.injEq] at h1; subst h1
        obtain ⟨b', c', q1, q2, q3, q4⟩ := hc.heap.obj nm0 _ hH hl
        rw [hn] at q1; cases q1
        exact ⟨b, c, by simp [upd_same], q2, q3, q4.ext (hE fun _ => True) trivial⟩
      · simp only [upd_ne _ _ _ e] at h1
        obtain ⟨b', c', q1, q2, q3, q4⟩ := hc.heap.obj m q h1 h2
        exact ⟨b', c', hle.nu _ _ q1, q2, q3, q4.ext (hE fun _ => True) trivial⟩
  · obtain ⟨m0, a1, a2, a3⟩ := old m o1 x y h1 l1 g1
    obtain ⟨m1, b1, b2, b3⟩ := old m' o2 x y' h2 l2 g2
    have := hc.heap.inj m0 m1 o1 o2 x y y' a1 b1 l1 l2 a2 b2
    rcases a3 with ⟨e1, e2⟩ | ⟨e1, e2, e3⟩ <;> rcases b3 with ⟨f1, f2⟩ | ⟨f1, f2, f3⟩
    · rw [e1, f1]
    · exact absurd (this.symm.trans e2) f3
    · exact absurd (this.trans f2) e3
    · rw [← e2, ← f2, this]
  · by_cases e0 : m = nm0
    · subst e0; simp [upd_same] at h
    · simp only [upd_ne _ _ _ e0] at h
      by_cases e : m = nm
      · subst e; simp [upd_same] at h
      · simp only [upd_ne _ _ _ e] at h ⊢; exact hc.heap.dom m h

/-- Nothing appended. -/
theorem does_app0 (hc : Conc n F Γ0 w0 Γ s a w) {o : Oper} (hd : ∀ x, o.dst = some x → x < n) {E : Nat} {x : AV} {x' y' : Operand} {t u e : TypeId} {i : TypeInfo} {z : Value} {news : List Value} {args : Array Operand} {ts : Array TypeId} {av : AV} {ws : List (Nat × HO)}
    (ho : o.op = .call { callee := .builtin .append, args := args, argTypes := ts }) (ha : args.toList = [x', y']) (hts : ts.toList = [t, u]) (hS : SrcW P t u o.type e i z (a.eval y') 0 news w) (hxr : Rep Γ x (a.eval x')) (h : app0 E x = some (av, ws)) :
    Does P n F Γ0 w0 (s.app o.dst av ws) a w o := by
  have zero : ∀ {q : Option Addr} {len cap : Nat}, a.eval x' = .slice q len cap → len ≤ cap → Rep Γ av (a.eval x') → ws = [] → Does P n F Γ0 w0 (s.app o.dst av ws) a w o := fun {q len cap} hv hle hr hws => by
    subst hws
    have hrun := hS.zero rfl q len cap hle
    rw [← hv] at hrun
    exact ⟨_, w, Γ, .inl (exec_append ho ha hts hrun), hc.put hd hr⟩
  unfold app0 at h
  split at h
  · rename_i E' xs
    split at h
    · rename_i hE
      subst hE
      simp only [Option.some.injEq, Prod.mk.injEq] at h
      obtain ⟨rfl, rfl⟩ := h
      obtain ⟨q, cap, vs, hv, hle, _⟩ := ro_open (w := w) hc.base hxr
      exact zero hv hle hxr rfl
    · cases h
  · rename_i nm0 E' p len cap
    split at h
    · rename_i hle
      simp only [Option.some.injEq, Prod.mk.injEq] at h
      obtain ⟨rfl, rfl⟩ := h
      obtain ⟨b, c, hv, _⟩ := hxr.ns_inv
      exact zero hv hle hxr rfl
    · cases h
  · rename_i nm0 E' off len
    simp only [Option.some.injEq, Prod.mk.injEq] at h
    obtain ⟨rfl, rfl⟩ := h
    obtain ⟨b, c, q, hv, _, hle, _⟩ := hxr.gs_inv
    exact zero hv (by omega) hxr rfl
  · cases h

theorem ifNew_some {H : Heap} {nm : Nat} {o : HO} {v av : AV} {ws : List (Nat × HO)} (h : ifNew H nm o v = some (av, ws)) : H nm = none ∧ av = v ∧ ws = [(nm, o)] := by
  unfold ifNew at h
  split at h
  · rename_i hn
    simp only [Option.some.injEq, Prod.mk.injEq] at h
    exact ⟨hn, h.1.symm, h.2.symm⟩
  · cases h

/-- Elements appended. -/
theorem does_appC (hc : Conc n F Γ0 w0 Γ s a w) {o : Oper} (hd : ∀ x, o.dst = some x → x < n) {E bytes nm : Nat} {ys : List (List AV)} {x : AV} {x' y' : Operand} {t u e : TypeId} {i : TypeInfo} {z : Value} {news : List Value} {args : Array Operand} {ts : Array TypeId} {av : AV} {ws : List (Nat × HO)}
    (ho : o.op = .call { callee := .builtin .append, args := args, argTypes := ts }) (ha : args.toList = [x', y']) (hts : ts.toList = [t, u])
    (hs : i.size = E) (hby : i.bytes = bytes) (hpos : 0 < bytes) (hzs : z.cells.size = E) (hz1 : ∀ v ∈ z.cells, v.oneCell' = true)
    (hS : SrcW P t u o.type e i z (a.eval y') ys.length news w) (hnr : CellsRep Γ ys.flatten news) (hnl : ∀ x ∈ ys, x.length = E) (hy : 0 < ys.length) (hxr : Rep Γ x (a.eval x')) (h : appC s.H nm E bytes x ys = some (av, ws)) :
    Does P n F Γ0 w0 (s.app o.dst av ws) a w o := by
  have hnlen : news.length = ys.length * E := by rw [hS.newsLen, hs]
  -- in place
  have inplace : ∀ {nm0 b c p len cap : Nat} {ob : HO} {cs : List AV}, a.eval x' = .slice (some ⟨b, p, none⟩) len cap → Γ.nu nm0 = some (b, c) → s.H nm0 = some ob → ob.cells = some cs → len + ys.length ≤ cap → p + (len + ys.length) * E ≤ cs.length → Rep Γ av (.slice (some ⟨b, p, none⟩) (len + ys.length) cap) →
      ws = [(nm0, ob.wr (p + len * E) ys.flatten)] → Does P n F Γ0 w0 (s.app o.dst av ws) a w o := fun {nm0 b c p len cap ob cs} hv hn hH hcs hroom hle hr hws => by
    subst hws
    obtain ⟨b', c', us, ty, e1, _, e3, e4, e5⟩ := hc.obj_cells hH hcs
    rw [hn] at e1; cases e1
    have hfl := flatten_len hnl
    have hmul : (len + ys.length) * E = len * E + ys.length * E := Nat.add_mul _ _ _
    have hrun := hS.room b p len cap hroom (fun j hj => by
      simp only [World.cell?, e3]
      rw [hs]; simp only [Option.isSome_none, Bool.false_eq_true, if_false, List.getElem?_toArray]
      rw [List.getElem?_eq_getElem (by omega)]; rfl) (fun j hj => by simp [World.frozen?, e3])
    rw [← hv, hs] at hrun
    exact ⟨_, _, Γ, .inl (exec_append ho ha hts hrun), (e5 (p + len * E) ys.flatten news hnr (by rw [hfl]; omega)).put hd hr⟩
  unfold appC at h
  split at h
  · rename_i E' xs
    split at h
    case isFalse => cases h
    rename_i hcond
    obtain ⟨rfl, h40⟩ := hcond
    obtain ⟨hn, rfl, rfl⟩ := ifNew_some h
    obtain ⟨q, cap, vs, hv, hle, hcl, _⟩ := ro_open (w := w) hc.base hxr
    exact does_grow hc hd ho ha hts hs hby hpos hzs hz1 hS hnr hnl hy (by simp [elsV]) hxr hv (by have := hcl rfl; omega) h40 hn
  · rename_i nm0 E' p len cap
    split at h
    case h_2 => cases h
    rename_i ob hH
    split at h
    case h_2 => cases h
    rename_i cs hcs
    obtain ⟨b, c, hv, hn⟩ := hxr.ns_inv
    split at h
    · rename_i hcond
      obtain ⟨rfl, k1, k2⟩ := hcond
      simp only [Option.some.injEq, Prod.mk.injEq] at h
      obtain ⟨rfl, rfl⟩ := h
      have : (len + ys.length) * E' ≤ cap * E' := Nat.mul_le_mul_right _ k2
      exact inplace hv hn hH hcs k2 (by omega) (.ns _ _ _ _ _ b c hn) rfl
    · split at h
      case isFalse => cases h
      rename_i hcond
      obtain ⟨rfl, k0, k1, h40⟩ := hcond
      obtain ⟨hnew, rfl, rfl⟩ := ifNew_some h
      have hels : elsV s.H E' (.ns nm0 E' p len cap) = some (chunk E' len (cs.drop p)) := by
        simp only [elsV, cellsAt, hH, Option.bind_some, hcs]
        rw [if_pos ⟨trivial, k1⟩]
      have hcl : (chunk E' len (cs.drop p)).length = len := by
        obtain ⟨_, _, _, g1, _⟩ := els_open hc hels hxr
        rw [hv] at g1
        simp only [Value.slice.injEq] at g1
        exact g1.2.1.symm
      have := does_grow hc hd (nm := nm) ho ha hts hs hby hpos hzs hz1 hS hnr hnl hy hels hxr hv (by rw [hcl]; exact k0) (by rw [hcl]; exact h40) hnew
      rw [hcl] at this
      exact this
  · rename_i nm0 E' off len
    split at h
    case h_2 => cases h
    rename_i E'' xs hH
    obtain ⟨b, c, q, hv, hn, hlec, hq⟩ := hxr.gs_inv
    obtain ⟨b', c', e1, _, _, e4⟩ := hc.heap.obj nm0 _ hH rfl
    rw [hn] at e1; cases e1
    have hxE := e4.1
    have hxc := e4.2.1
    split at h
    · rename_i hcond
      obtain ⟨rfl, rfl, k1⟩ := hcond
      simp only [Option.some.injEq, Prod.mk.injEq] at h
      obtain ⟨rfl, rfl⟩ := h
      have hq := hq (by omega)
      subst hq
      have hle : (off + len + ys.length) * E'' ≤ xs.length * E'' := Nat.mul_le_mul_right _ k1
      have hmul : (off + len + ys.length) * E'' = off * E'' + (len + ys.length) * E'' := by rw [← Nat.add_mul, Nat.add_assoc]
      refine inplace hv hn hH rfl (by omega) (by rw [flatten_len hxE]; omega) (.gs _ _ _ _ b c _ hn (by omega) (fun _ => rfl)) ?_
      simp only [HO.wr, List.cons.injEq, Prod.mk.injEq, true_and, and_true]
      rw [← Nat.add_mul, wr_flatten hxE hnl]
      congr 1
      have hl2 : (xs.take (off + len) ++ ys ++ xs.drop (off + len + ys.length)).length = xs.length := by simp; omega
      have hE2 : ∀ y ∈ xs.take (off + len) ++ ys ++ xs.drop (off + len + ys.length), y.length = E'' := fun y hy' => by
        simp only [List.mem_append] at hy'
        rcases hy' with (hy' | hy') | hy'
        · exact hxE y (List.mem_of_mem_take hy')
        · exact hnl y hy'
        · exact hxE y (List.mem_of_mem_drop hy')
      have := chunk_of_flatten hE2
      rw [hl2] at this
      exact this.symm
    · split at h
      case isFalse => cases h
      rename_i hcond
      obtain ⟨rfl, rfl, rfl, rfl, h40⟩ := hcond
      split at h
      case h_2 => cases h
      rename_i hnew
      simp only [Option.some.injEq, Prod.mk.injEq] at h
      obtain ⟨rfl, rfl⟩ := h
      have hels : elsV s.H E'' (.gs nm0 E'' 0 xs.length) = some xs := by simp [elsV, hH]
      have hne : nm ≠ nm0 := fun e => by rw [e, hH] at hnew; cases hnew
      simp only [Nat.sub_zero, Nat.zero_mul] at hv hq
      by_cases hroom : xs.length + ys.length ≤ c
      · -- there is room
        have hq := hq (by omega)
        subst hq
        obtain ⟨hE1, hcap1, g1, us, rest, ty, g2, g3, g4, g5⟩ := e4
        have hul : us.length = xs.length * E'' := by rw [g3.1, flatten_len hxE]
        have hle : xs.length * E'' + news.length ≤ (us ++ rest).length := by
          rw [List.length_append, hul, g4, hnlen]
          have : ys.length * E'' ≤ (c - xs.length) * E'' := Nat.mul_le_mul_right _ (by omega)
          omega
        have hrun := hS.room b 0 xs.length c hroom (fun j hj => by
          simp only [World.cell?, g2]
          rw [hs]; simp only [Option.isSome_none, Bool.false_eq_true, if_false, List.getElem?_toArray]
          rw [List.getElem?_eq_getElem (by omega)]; rfl) (fun j hj => by simp [World.frozen?, g2])
        rw [← hv, hs] at hrun
        have hheap' := heap_setCells news (0 + xs.length * E'') w (us ++ rest) g2 (by simpa using hle)
        have hwr : wrVals (us ++ rest) (0 + xs.length * E'') news = (us ++ news) ++ rest.drop news.length := by
          simp only [wrVals, Nat.zero_add, ← hul]
          rw [List.take_left, List.drop_append, List.drop_of_length_le (by omega)]
          simp
        rw [hwr] at hheap'
        have hobj : HORep Γ (w.setCells b (0 + xs.length * E'') news) b c (.gro E'' (xs ++ ys)) := by
          refine ⟨fun x hx => ?_, by simpa using hroom, g1, us ++ news, rest.drop news.length, ty, hheap', by rw [List.flatten_append]; exact g3.append hnr, ?_, fun v hv' => g5 v (List.mem_of_mem_drop hv')⟩
          · rcases List.mem_append.1 hx with hx | hx
            · exact hxE x hx
            · exact hnl x hx
          · rw [List.length_drop, g4, hnlen, List.length_append, ← Nat.sub_mul]; congr 1; omega
        have h1 := hc.setObj hH rfl hn (Ext.setCells (fun h => h rfl) news _) (hc.base.setCells g1 news _) (o' := .gro E'' (xs ++ ys)) (fun _ => hobj)
        have h2 := h1.rename (nm := nm) (nm0 := nm0) (o := .gro E'' (xs ++ ys)) (upd_same _ _ _) rfl hn (by simp [upd_ne _ _ _ hne, hnew])
        have e : upd (upd (upd s.H nm0 (some (.gro E'' (xs ++ ys)))) nm (some (.gro E'' (xs ++ ys)))) nm0 (some .dead) = upd (upd s.H nm (some (.gro E'' (xs ++ ys)))) nm0 (some .dead) := by
          funext m; simp only [upd]; split <;> rfl
        simp only [e] at h2
        exact ⟨_, _, _, .inl (exec_append ho ha hts hrun), h2.put hd (.gs nm E'' 0 (xs.length + ys.length) b c ⟨b, 0, none⟩ (by simp [upd_same]) (by omega) (fun _ => by rw [Nat.zero_mul]))⟩
      · obtain ⟨v, w', Γ', hr, hc'⟩ := does_grow hc hd (nm := nm) ho ha hts hs hby hpos hzs hz1 hS hnr hnl hy hels hxr hv (by omega) h40 hnew
        refine ⟨v, w', Γ', hr, ?_⟩
        have hH' : (s.app o.dst (.gs nm E'' 0 (xs.length + ys.length)) [(nm, .gro E'' (xs ++ ys))]).H nm0 = some (.gro E'' xs) := by
          simp only [St.app, updH, upd_ne _ _ _ (Ne.symm hne)]; exact hH
        obtain ⟨b1, c1, k1, _⟩ := hc'.heap.obj nm0 _ hH' rfl
        exact hc'.setObj hH' rfl k1 (Ext.refl _ _ _) hc'.base (o' := .dead) (fun h => by cases h)
  · cases h
end

end Go.Proofs.YtfhflogbffibiaaGreat

/-
  Operations that only yield, the last: slice expressions, len, cap, a byte of a string.
-/
import Derived.Test.YtfhflogbffibiaaGreatVF
namespace Go.Proofs.YtfhflogbffibiaaGreat
open Go
set_option linter.unusedSimpArgs false
set_option linter.unusedVariables false

section
variable {P : Program} {n : Nat} {F : Nat → Prop} {Γ0 : RO} {w0 : World} {Γ : RO} {s : St} {a : Act} {w : World}

/-- A bound, as the model reads it. -/
theorem bnd_rep (hc : Conc n F Γ0 w0 Γ s a w) {x : Operand} {l : LA} {dflt m : Int} (hf : fitA x l = true) (hb : bndV s.fr (some l) dflt = some m) : a.eval x = .int .i64 m := by
  simp only [bndV] at hb
  split at hb
  · rename_i q hq; cases hb
    exact (hq ▸ ev_rep hc hf : Rep Γ (.int .i64 m) (a.eval x)).int_inv
  · cases hb

theorem sliceBound_run (m : Int) (y : Nat) (code : BoundsCode) (h0 : 0 ≤ m) (h1 : m ≤ y) (w : World) : (Instr.sliceBound (.int .i64 m) y code).run P w = .ok m.toNat w := by
  simp [Instr.sliceBound, asIntOf, h0, h1]

/-- Two bounds, or one, or none; no third. -/
theorem bounds2_run (hc : Conc n F Γ0 w0 Γ s a w) {lo hi : Option LA} {l' h' : Option Operand} {len cap : Nat} {l h : Int} (f1 : fitO l' lo = true) (f2 : fitO h' hi = true) (b1 : bndV s.fr lo 0 = some l) (b2 : bndV s.fr hi len = some h)
    (h0 : 0 ≤ l) (h1 : l ≤ h) (h2 : h ≤ cap) : (Instr.sliceBounds true len cap (l'.map a.eval) (h'.map a.eval) none).run P w = .ok (l.toNat, h.toNat, cap) w := by
  have k1 : ∀ c, (Instr.sliceBound (.int .i64 h) cap c).run P w = .ok h.toNat w := fun c => sliceBound_run h cap c (by omega) h2 w
  have k2 : ∀ c, (Instr.sliceBound (.int .i64 l) h.toNat c).run P w = .ok l.toNat w := fun c => sliceBound_run l _ c h0 (by omega) w
  cases h' with
  | none => cases hi with
    | some _ => cases f2
    | none =>
      simp only [bndV, Option.some.injEq] at b2
      subst b2
      cases l' with
      | none => cases lo with
        | none => simp only [bndV, Option.some.injEq] at b1; subst b1; simp [Instr.sliceBounds]
        | some _ => cases f1
      | some x => cases lo with
        | none => cases f1
        | some y =>
          have e1 := bnd_rep hc f1 b1
          simp only [Int.toNat_natCast] at k2
          simp [Instr.sliceBounds, e1, k2]
  | some z => cases hi with
    | none => cases f2
    | some z' =>
      have e2 := bnd_rep hc f2 b2
      cases l' with
      | none => cases lo with
        | none => simp only [bndV, Option.some.injEq] at b1; subst b1; simp [Instr.sliceBounds, e2, k1]
        | some _ => cases f1
      | some x => cases lo with
        | none => cases f1
        | some y =>
          have e1 := bnd_rep hc f1 b1
          simp [Instr.sliceBounds, e1, e2, k1, k2]

theorem bounds3_run (hc : Conc n F Γ0 w0 Γ s a w) {lo hi : Option LA} {mx : LA} {l' h' : Option Operand} {m' : Operand} {len cap : Nat} {l h m : Int} (f1 : fitO l' lo = true) (f2 : fitO h' hi = true) (f3 : fitA m' mx = true) (hsome : h'.isSome = true)
    (b1 : bndV s.fr lo 0 = some l) (b2 : bndV s.fr hi len = some h) {d : Int} (b3 : bndV s.fr (some mx) d = some m) (h0 : 0 ≤ l) (h1 : l ≤ h) (h2 : h ≤ m) (h3 : m ≤ cap) :
    (Instr.sliceBounds true len cap (l'.map a.eval) (h'.map a.eval) (some (a.eval m'))).run P w = .ok (l.toNat, h.toNat, m.toNat) w := by
  have e3 := bnd_rep hc f3 b3
  have k0 : ∀ c, (Instr.sliceBound (.int .i64 m) cap c).run P w = .ok m.toNat w := fun c => sliceBound_run m cap c (by omega) h3 w
  have k1 : ∀ c, (Instr.sliceBound (.int .i64 h) m.toNat c).run P w = .ok h.toNat w := fun c => sliceBound_run h _ c (by omega) (by omega) w
  have k2 : ∀ c, (Instr.sliceBound (.int .i64 l) h.toNat c).run P w = .ok l.toNat w := fun c => sliceBound_run l _ c h0 (by omega) w
  cases h' with
  | none => cases hsome
  | some z => cases hi with
    | none => cases f2
    | some z' =>
      have e2 := bnd_rep hc f2 b2
      cases l' with
      | none => cases lo with
        | none => simp only [bndV, Option.some.injEq] at b1; subst b1; simp [Instr.sliceBounds, e2, e3, k0, k1]
        | some _ => cases f1
      | some x => cases lo with
        | none => cases f1
        | some y =>
          have e1 := bnd_rep hc f1 b1
          simp [Instr.sliceBounds, e1, e2, e3, k0, k1, k2]

/-- A read-only slice, cut. -/
theorem ro_cut {E : Nat} {xs : List (List AV)} {clip : Bool} {u : Value} (hr : Rep Γ (.ro E xs clip) u) : ∃ q cap, u = .slice q xs.length cap ∧ (clip = true → cap = xs.length) ∧ xs.length ≤ cap ∧
    ∀ (l h m : Nat) (c : Bool), l ≤ h → h ≤ m → h ≤ xs.length → m ≤ cap → (c = true → h = m) → Rep Γ (.ro E ((xs.take h).drop l) c) (.slice (if m = l then q else q.map (·.add (l * E))) (h - l) (m - l)) := by
  cases hr with
  | ro E xs clip b o cap f h1 h2 h3 h4 h5 h6 =>
    refine ⟨some ⟨b, o, none⟩, cap, rfl, h3, h2, fun l h m c e1 e2 e3 e4 e5 => ?_⟩
    have hlen : ((xs.take h).drop l).length = h - l := by simp; omega
    by_cases hm : m = l
    · have : (xs.take h).drop l = [] := List.length_eq_zero_iff.1 (by omega)
      rw [this, show h - l = 0 by omega]
      exact .ro0 E c _ _ (fun _ => by omega)
    · rw [if_neg hm, Option.map_some, Addr.add_mid, ← hlen]
      have hget : ∀ (i : Nat) x, ((xs.take h).drop l)[i]? = some x → xs[l + i]? = some x := fun i x hi => by
        rw [List.getElem?_drop, List.getElem?_take] at hi
        split at hi
        · exact hi
        · cases hi
      exact .ro E _ c b (o + l * E) (m - l) (fun i j => f (l + i) j) (fun x hx => h1 x (List.mem_of_mem_take (List.mem_of_mem_drop hx))) (by omega) (fun hc => by have := e5 hc; omega)
        (fun i x j c hx hj => by rw [show o + l * E + i * E + j = o + (l + i) * E + j by rw [Nat.add_mul]; omega]; exact h4 _ x j c (hget i x hx) hj)
        (fun i x j c hx hj => h5 _ x j c (hget i x hx) hj) (fun i x j c hx hj => h6 _ x j c (hget i x hx) hj)
  | ro0 E clip q cap hcap =>
    refine ⟨q, cap, rfl, hcap, by simp, fun l h m c e1 e2 e3 e4 e5 => ?_⟩
    simp only [List.length_nil, Nat.le_zero_eq] at e3
    subst e3
    obtain rfl : l = 0 := by omega
    simp only [List.take_nil, List.drop_nil, Nat.sub_zero]
    exact .ro0 E c _ _ (fun hc => (e5 hc).symm)

theorem gro_le (hc : Conc n F Γ0 w0 Γ s a w) {nm E : Nat} {xs : List (List AV)} {b c : Nat} (hH : s.H nm = some (.gro E xs)) (hn : Γ.nu nm = some (b, c)) : xs.length ≤ c := by
  obtain ⟨b', c', e1, _, _, e4⟩ := hc.heap.obj nm _ hH rfl
  rw [hn] at e1; cases e1
  exact e4.2.1

theorem yields_slc (hc : Conc n F Γ0 w0 Γ s a w) {o : Oper} {E : Nat} {x : LA} {lo hi mx : Option LA} {y : Operand} {t : TypeId} {l' h' m' : Option Operand} {av : AV} (ho : o.op = .slice t y l' h' m') (hE : elemIs P t E = true) (h1 : fitA y x = true)
    (f1 : fitO l' lo = true) (f2 : fitO h' hi = true) (f3 : fitO m' mx = true) (hsome : m'.isSome = true → h'.isSome = true) (hx : sliceV s.fr s.H E (x.ev s.fr) lo hi mx = some av) : Yields P Γ a w o av := by
  obtain ⟨e, inf, hu, hin, hsz⟩ := elemIs_some hE
  have run : ∀ {q : Option Addr} {len cap l h m : Nat}, a.eval y = .slice q len cap → (Instr.sliceBounds true len cap (l'.map a.eval) (h'.map a.eval) (m'.map a.eval)).run P w = .ok (l, h, m) w →
      (execOp a.eval o).run P w = .ok (.value (.slice (if m = l then q else q.map (·.add (l * E))) (h - l) (m - l))) w := fun he hb => by
    simp only [execOp, ho, Instr.sliceAt, Sem.run_bind, run_underlying hu, Result.andThen_ok, he, Instr.slice, hb, sizeOf, typeInfo, run_program, hin, Sem.run_pure, hsz]
  have two : ∀ {len cap : Nat} {l h : Int}, mx.map (fun m => bndV s.fr (some m) 0) = none → bndV s.fr lo 0 = some l → bndV s.fr hi len = some h → 0 ≤ l → l ≤ h → h ≤ cap →
      (Instr.sliceBounds true len cap (l'.map a.eval) (h'.map a.eval) (m'.map a.eval)).run P w = .ok (l.toNat, h.toNat, cap) w := fun {len cap l h} b3 b1 b2 k1 k2 k3 => by
    have hm' : m' = none := by
      cases mx with
      | none => cases m' with
        | none => rfl
        | some _ => cases f3
      | some _ => cases b3
    subst hm'
    exact bounds2_run hc f1 f2 b1 b2 k1 k2 k3
  have three : ∀ {len cap : Nat} {l h m : Int}, mx.map (fun m => bndV s.fr (some m) 0) = some (some m) → bndV s.fr lo 0 = some l → bndV s.fr hi len = some h → 0 ≤ l → l ≤ h → h ≤ m → m ≤ cap →
      (Instr.sliceBounds true len cap (l'.map a.eval) (h'.map a.eval) (m'.map a.eval)).run P w = .ok (l.toNat, h.toNat, m.toNat) w := fun {len cap l h m} b3 b1 b2 k1 k2 k3 k4 => by
    cases mx with
    | none => cases b3
    | some mx =>
      cases m' with
      | none => cases f3
      | some m' =>
        simp only [Option.map_some, Option.some.injEq] at b3
        exact bounds3_run hc f1 f2 f3 (hsome rfl) b1 b2 b3 k1 k2 k3 k4
  unfold sliceV at hx
  split at hx
  · rename_i E' xs clip hv
    have hr : Rep Γ (.ro E' xs clip) (a.eval y) := hv ▸ ev_rep hc h1
    obtain ⟨q', cap, g1, g2, g3, g4⟩ := ro_cut hr
    split at hx
    · rename_i l h b1 b2 b3
      split at hx
      case isFalse => cases hx
      rename_i hcond
      obtain ⟨rfl, k1, k2, k3⟩ := hcond
      cases hx
      refine ⟨_, run g1 (two b3 b1 b2 k1 k2 (by omega)), ?_⟩
      refine g4 l.toNat h.toNat cap _ (by omega) (by omega) (by omega) (by omega) (fun hcl => ?_)
      simp only [Bool.and_eq_true, decide_eq_true_eq] at hcl
      have := g2 hcl.1; omega
    · rename_i l h m b1 b2 b3
      split at hx
      case isFalse => cases hx
      rename_i hcond
      obtain ⟨rfl, k1, k2, k3, k4⟩ := hcond
      cases hx
      refine ⟨_, run g1 (three b3 b1 b2 k1 k2 k3 (by omega)), ?_⟩
      refine g4 l.toNat h.toNat m.toNat _ (by omega) (by omega) (by omega) (by omega) (fun hcl => ?_)
      simp only [decide_eq_true_eq] at hcl
      omega
    · cases hx
  · rename_i nm E' p len cap hv
    obtain ⟨b, c, hr, hn⟩ := (hv ▸ ev_rep hc h1 : Rep Γ (.ns nm E' p len cap) (a.eval y)).ns_inv
    split at hx
    · rename_i l h m b1 b2 b3
      split at hx
      case isFalse => cases hx
      rename_i hcond
      obtain ⟨rfl, k1, k2, k3, k4⟩ := hcond
      cases hx
      have hb : (Instr.sliceBounds true len cap (l'.map a.eval) (h'.map a.eval) (m'.map a.eval)).run P w = .ok (l.toNat, h.toNat, m.toNat) w := by
        cases mx with
        | none =>
          simp only [bndV] at b3; cases b3
          have := two (len := len) (cap := cap) rfl b1 b2 k1 k2 k3
          simpa using this
        | some mx => exact three (by simp only [Option.map_some, Option.some.injEq]; exact b3) b1 b2 k1 k2 k3 k4
      refine ⟨_, run hr hb, ?_⟩
      by_cases hml : m = l
      · subst hml; simp only [if_true]; exact .ns _ _ _ _ _ b c hn
      · rw [if_neg hml, if_neg (by omega), Option.map_some, Addr.add_mid]; exact .ns _ _ _ _ _ b c hn
    · cases hx
  · rename_i nm E' off len hv
    obtain ⟨b, c, q, hr, hn, hle, hq⟩ := (hv ▸ ev_rep hc h1 : Rep Γ (.gs nm E' off len) (a.eval y)).gs_inv
    split at hx
    case h_2 => cases hx
    rename_i E'' xs hH
    have hxc := gro_le hc hH hn
    split at hx
    · rename_i l h b1 b2 b3
      split at hx
      case isFalse => cases hx
      rename_i hcond
      obtain ⟨rfl, k1, k2, k3⟩ := hcond
      cases hx
      refine ⟨_, run hr (two (cap := c - off) b3 b1 b2 k1 k2 (by omega)), ?_⟩
      rw [show c - off - l.toNat = c - (off + l.toNat) by omega]
      by_cases hml : c - off = l.toNat
      · rw [if_pos hml]
        exact .gs _ _ _ _ b c q hn (by omega) (fun h => by omega)
      · rw [if_neg hml, hq (by omega), Option.map_some, Addr.add_mid, ← Nat.add_mul]
        exact .gs _ _ _ _ b c _ hn (by omega) (fun _ => rfl)
    · rename_i l h m b1 b2 b3
      split at hx
      case isFalse => cases hx
      rename_i hcond
      obtain ⟨rfl, k1, k2, k3, k4, k5⟩ := hcond
      cases hx
      refine ⟨_, run hr (three (cap := c - off) b3 b1 b2 k1 k2 k3 (by omega)), ?_⟩
      rw [if_neg (by omega), hq (by omega), Option.map_some, Addr.add_mid, ← Nat.add_mul]
      exact .ns _ _ _ _ _ b c hn
    · cases hx
  · cases hx

theorem yields_len (hc : Conc n F Γ0 w0 Γ s a w) {o : Oper} {x : LA} {st : Bool} {y : Operand} {t : TypeId} {args : Array Operand} {ts : Array TypeId} {m : Int} (ho : o.op = .call { callee := .builtin .len, args := args, argTypes := ts }) (ha : args.toList = [y])
    (hts : ts.toList = [t]) (h1 : fitA y x = true) (ht : (match P.underlying t with | some (.slice _) => !st | some .string => st | _ => false) = true) (hz : lenV st (x.ev s.fr) = some m) : Yields P Γ a w o (.int .i64 m) := by
  have hargs : args = #[y] := by apply Array.ext'; simpa using ha
  have htys : ts = #[t] := by apply Array.ext'; simpa using hts
  have hu : (st = false → ∃ e, P.underlying t = some (.slice e)) ∧ (st = true → P.underlying t = some .string) := by
    split at ht
    · simp at ht; subst ht; rename_i hu; exact ⟨fun _ => ⟨_, hu⟩, fun h => (by cases h)⟩
    · subst ht; rename_i hu; exact ⟨fun h => (by cases h), fun _ => hu⟩
    · cases ht
  have hr' := ev_rep hc h1
  refine ⟨.int .i64 m, ?_, .int _ _⟩
  generalize x.ev s.fr = z at hz hr'
  unfold lenV at hz
  split at hz
  · obtain ⟨e, hu⟩ := hu.1 rfl
    simp at hz; subst hz
    generalize hy : a.eval y = u at hr'
    cases hr' with
    | ro E xs clip b q cap f => simp [execOp, ho, hargs, htys, resolve, invoke, builtin, Builtin.len_, run_underlying hu, hy, goInt]
    | ro0 E clip q cap => simp [execOp, ho, hargs, htys, resolve, invoke, builtin, Builtin.len_, run_underlying hu, hy, goInt]
  · obtain ⟨e, hu⟩ := hu.1 rfl
    simp at hz; subst hz
    obtain ⟨b, c, hv, _⟩ := hr'.ns_inv
    simp [execOp, ho, hargs, htys, resolve, invoke, builtin, Builtin.len_, run_underlying hu, hv, goInt]
  · obtain ⟨e, hu⟩ := hu.1 rfl
    simp at hz; subst hz
    obtain ⟨b, c, q, hv, _⟩ := hr'.gs_inv
    simp [execOp, ho, hargs, htys, resolve, invoke, builtin, Builtin.len_, run_underlying hu, hv, goInt]
  · have hu := hu.2 rfl
    simp at hz; subst hz
    have hv := Rep.str_inv hr'
    simp [execOp, ho, hargs, htys, resolve, invoke, builtin, Builtin.len_, run_underlying hu, hv, goInt]
  · cases hz

theorem yields_cap (hc : Conc n F Γ0 w0 Γ s a w) {o : Oper} {x : LA} {y : Operand} {t e : TypeId} {args : Array Operand} {ts : Array TypeId} {m : Int} (ho : o.op = .call { callee := .builtin .cap, args := args, argTypes := ts }) (ha : args.toList = [y])
    (hts : ts.toList = [t]) (h1 : fitA y x = true) (hu : P.underlying t = some (.slice e)) (hz : capV (x.ev s.fr) = some m) : Yields P Γ a w o (.int .i64 m) := by
  have hargs : args = #[y] := by apply Array.ext'; simpa using ha
  have htys : ts = #[t] := by apply Array.ext'; simpa using hts
  have hr' := ev_rep hc h1
  refine ⟨.int .i64 m, ?_, .int _ _⟩
  generalize x.ev s.fr = z at hz hr'
  unfold capV at hz
  split at hz
  · simp at hz; subst hz
    generalize hy : a.eval y = u at hr'
    cases hr' with
    | ro E xs clip b q cap f k1 k2 k3 => simp [execOp, ho, hargs, htys, resolve, invoke, builtin, Builtin.cap_, run_underlying hu, hy, goInt, k3 rfl]
    | ro0 E clip q cap k1 => simp [execOp, ho, hargs, htys, resolve, invoke, builtin, Builtin.cap_, run_underlying hu, hy, goInt, k1 rfl]
  · simp at hz; subst hz
    obtain ⟨b, c, hv, _⟩ := hr'.ns_inv
    simp [execOp, ho, hargs, htys, resolve, invoke, builtin, Builtin.cap_, run_underlying hu, hv, goInt]
  · cases hz
end

end Go.Proofs.YtfhflogbffibiaaGreat

/-
  THE MACHINE is sound: functions.
-/
import Derived.Test.YtfhflogbffibiaaGreatVW
namespace Go.Proofs.YtfhflogbffibiaaGreat
open Go
set_option linter.unusedSimpArgs false
set_option linter.unusedVariables false

def fitRes (P : Program) : List ResultVar → List LRes → Bool
  | [], [] => true
  | .tmp t :: r, .tmp t' :: q => t == t' && fitRes P r q
  | .cell t ty :: r, .cell t' m ag :: q => t == t' && sizeIs P ty m && rowIs P ty ag && fitRes P r q
  | _, _ => false

section
variable {P : Program} {n : Nat} {F : Nat → Prop} {Γ0 : RO} {w0 : World} {Γ : RO} {s : St} {a : Act} {w : World}

def resM (tmps : Array Value) : ResultVar → Sem Value
  | .tmp t => pure (tmps.getD t undef)
  | .cell r t => do loadVar t (← asAddr (tmps.getD r undef))

theorem ld_run (hc : Conc n F Γ0 w0 Γ s a w) {r : Nat} {t : TypeId} {m : Nat} {ag : Bool} {av : AV} (h2 : sizeIs P t m = true) (h3 : rowIs P t ag = true) (hok : ldV s.H (s.fr r) m ag = some av) :
    ∃ v, (resM a.tmps (.cell r t)).run P w = .ok v w ∧ Rep Γ av v := by
  have hs := hc.slots r
  have key : ∀ {b q p : Nat} {cs : List AV}, a.tmps.getD r undef = .pointer (some ⟨b, q + p, none⟩) → LiesAt Γ w b q cs → p + m ≤ cs.length → (ag = false → m = 1) → rdCells cs p m ag = av → ∃ v, (resM a.tmps (.cell r t)).run P w = .ok v w ∧ Rep Γ av v := fun he hl hm h1' hv => by
    obtain ⟨v, g1, g2⟩ := load_sound (P := P) hl h2 h3 hm h1'
    refine ⟨v, ?_, hv ▸ g2⟩
    simp only [Instr.loadAt, Instr.sureAddr, Sem.run_bind, Sem.run_pure, Result.andThen_ok] at g1
    simp only [resM, he, asAddr, Sem.run_bind, Sem.run_pure, Result.andThen_ok]
    exact g1
  unfold ldV at hok
  split at hok
  · rename_i cs hv
    split at hok
    · rename_i hcond
      rw [hv] at hs
      obtain ⟨b, q, g1, g2⟩ := hs.rp_lies hc.base
      exact key (q := q) (p := 0) (by simpa using g1) g2 (by simpa using hcond.1) hcond.2 (Option.some.inj hok)
    · cases hok
  · rename_i nm q hv
    split at hok
    · rename_i cs hcs
      split at hok
      · rename_i hcond
        rw [hv] at hs
        obtain ⟨b, c, g1, g2⟩ := hs.np_inv
        exact key (q := 0) (p := q) (by simpa using g1) (hc.heap.lies hcs g2) hcond.1 hcond.2 (Option.some.inj hok)
      · cases hok
    · cases hok
  · cases hok

theorem resV_run (hc : Conc n F Γ0 w0 Γ s a w) : ∀ (vs : List ResultVar) (rs : List LRes) (xs : List AV), fitRes P vs rs = true → resV s.fr s.H rs = some xs →
    ∃ us : List Value, (vs.mapM (resM a.tmps)).run P w = .ok us w ∧ us.length = xs.length ∧ ∀ (i : Nat) x v, xs[i]? = some x → us[i]? = some v → Rep Γ x v
  | [], [], xs, _, h => by cases h; exact ⟨[], rfl, rfl, fun i x v h => by simp at h⟩
  | .tmp t :: vs, .tmp t' :: rs, xs, hf, h => by
    simp only [fitRes, Bool.and_eq_true, beq_iff_eq] at hf
    obtain ⟨rfl, hf⟩ := hf
    simp only [resV] at h
    split at h
    · rename_i ys hy
      cases h
      obtain ⟨us, g1, g2, g3⟩ := resV_run hc vs rs ys hf hy
      refine ⟨a.tmps.getD t undef :: us, ?_, by simp [g2], fun i x v hi hv => ?_⟩
      · have h1 : (resM a.tmps (.tmp t)).run P w = .ok (a.tmps.getD t undef) w := rfl
        rw [List.mapM_cons]
        simp only [Sem.run_bind, h1, g1, Result.andThen_ok, Sem.run_pure]
      · cases i with
        | zero =>
          simp only [List.getElem?_cons_zero, Option.some.injEq] at hi hv
          subst hi; subst hv; exact hc.slots t
        | succ i => exact g3 i x v (by simpa using hi) (by simpa using hv)
    · cases h
  | .cell t ty :: vs, .cell t' m ag :: rs, xs, hf, h => by
    simp only [fitRes, Bool.and_eq_true, beq_iff_eq] at hf
    obtain ⟨⟨⟨rfl, f1⟩, f2⟩, hf⟩ := hf
    simp only [resV] at h
    split at h
    · rename_i av hq
      split at h
      · rename_i ys hy
        cases h
        obtain ⟨us, g1, g2, g3⟩ := resV_run hc vs rs ys hf hy
        obtain ⟨v, h1, j2⟩ := ld_run hc f1 f2 hq
        refine ⟨v :: us, ?_, by simp [g2], fun i x u hi hv => ?_⟩
        · rw [List.mapM_cons]
          simp only [Sem.run_bind, h1, g1, Result.andThen_ok, Sem.run_pure]
        · cases i with
          | zero => simp at hi hv; subst hi; subst hv; exact j2
          | succ i => exact g3 i x u (by simpa using hi) (by simpa using hv)
      · cases h
    · cases h
  | [], _ :: _, _, h, _ => by cases h
  | .tmp _ :: _, [], _, h, _ => by cases h
  | .cell _ _ :: _, [], _, h, _ => by cases h
  | .tmp _ :: _, .cell _ _ _ :: _, _, h, _ => by cases h
  | .cell _ _ :: _, .tmp _ :: _, _, h, _ => by cases h

theorem retV_run (hc : Conc n F Γ0 w0 Γ s a w) {fn : Func} {rs : List LRes} {r : AV} (hf : fitRes P fn.results.toList rs = true) (hr : retV s.fr s.H rs = some r) : ∃ v, (results fn a.tmps).run P w = .ok v w ∧ Rep Γ r v := by
  unfold retV at hr
  have go : ∀ xs, resV s.fr s.H rs = some xs → (∀ x, xs = [x] → r = x) → ((∀ x, xs ≠ [x]) → r = .tup xs) → ∃ v, (results fn a.tmps).run P w = .ok v w ∧ Rep Γ r v := fun xs hxs h1 h2 => by
    obtain ⟨us, g1, g2, g3⟩ := resV_run (P := P) hc fn.results.toList rs xs hf hxs
    have hm : (fn.results.mapM (resM a.tmps)).run P w = .ok us.toArray w := by
      rw [Array.mapM_eq_mapM_toList, Sem.run_map]
      rw [g1]; rfl
    have hres : results fn a.tmps = (do let vs ← fn.results.mapM (resM a.tmps); pure (if h : vs.size = 1 then vs[0] else .tuple vs)) := by
      unfold results
      congr 1
    rw [hres, Sem.run_bind, hm]
    simp only [Result.andThen_ok, Sem.run_pure]
    by_cases hx : ∃ x, xs = [x]
    · obtain ⟨x, rfl⟩ := hx
      obtain ⟨u, rfl⟩ : ∃ u, us = [u] := by
        match us, g2 with
        | [u], _ => exact ⟨u, rfl⟩
      exact ⟨u, by simp, by rw [h1 x rfl]; exact g3 0 x u rfl rfl⟩
    · have hne : us.length ≠ 1 := fun e => hx (by
        rw [g2] at e
        match xs, e with
        | [x], _ => exact ⟨x, rfl⟩)
      refine ⟨.tuple us.toArray, by rw [dif_neg (by simpa using hne)], ?_⟩
      rw [h2 (fun x e => hx ⟨x, e⟩)]
      exact .tup xs us g2 g3
  split at hr
  · rename_i x hx; cases hr; exact go _ hx (fun y e => by cases e; rfl) (fun h => absurd rfl (h _))
  · rename_i xs hne hx; cases hr; exact go _ hx (fun y e => by subst e; exact absurd rfl (hne y)) (fun _ => rfl)
  · cases hr
end

/-- A function of the loaded program against its abstract code. -/
def fitF (P : Program) (pures : Nat → Bool) (f : FuncId) (k : FCode) : Bool := match P.funcs[f]? with
  | some fn => fn.name != "runtime.NumGoroutine" && fn.ntmps == k.nt && fitRes P fn.results.toList k.r && (match fn.body with
    | some b => fitC P pures k.nt b k.c
    | none => false)
  | none => false

theorem fitF_parts {P : Program} {pures : Nat → Bool} {f : FuncId} {k : FCode} (h : fitF P pures f k = true) : ∃ fn b, P.funcs[f]? = some fn ∧ fn.body = some b ∧ fn.ntmps = k.nt ∧ fitRes P fn.results.toList k.r = true ∧ fitC P pures k.nt b k.c = true ∧ entersB P f = true := by
  unfold fitF at h
  split at h
  · rename_i fn hfn
    simp only [Bool.and_eq_true, bne_iff_ne, ne_eq, beq_iff_eq] at h
    obtain ⟨⟨⟨h1, h2⟩, h3⟩, h4⟩ := h
    split at h4
    · rename_i b hb
      exact ⟨fn, b, hfn, hb, h2, h3, h4, by simp [entersB, hfn, h1, hb]⟩
    · cases h4
  · cases h

section
variable {P : Program} {pures : Nat → Bool} {call : CallA}

/-- The frame at a function's start. -/
theorem conc_init {Γ : RO} {w : World} {F : Nat → Prop} {args : List AV} {vs : List Value} {H : Heap} {nt : Nat} (hb : Base Γ w) (hF : ∀ b, F b → b < w.heap.size) (hH : HeapRep Γ w F H) (hA : ArgsRep Γ args vs) (hlen : args.length ≤ nt) :
    Conc nt F Γ w Γ (initA args H) { tmps := vs.toArray ++ Array.replicate (nt - vs.toArray.size) undef, defers := [] } w := by
  refine ⟨rfl, by simp [hA.1]; omega, hb, Ext.refl F Γ w, hF, fun t => ?_, hH⟩
  simp only [initA]
  by_cases ht : t < args.length
  · have htv : t < vs.length := by rw [hA.1]; exact ht
    have e1 : args.getD t .any = args[t] := by simp [List.getD, ht]
    have e2 : (vs.toArray ++ Array.replicate (nt - vs.toArray.size) undef).getD t undef = vs[t] := by
      simp [Array.getD_eq_getD_getElem?, Array.getElem?_append, htv]
    rw [e1, e2]
    exact hA.2 t _ _ (List.getElem?_eq_getElem ht) (List.getElem?_eq_getElem htv)
  · have e1 : args.getD t .any = .any := by simp [List.getD, List.getElem?_eq_none (Nat.le_of_not_lt ht)]
    rw [e1]; exact .any _

theorem goF_ok (hcall : CallOk P call) (hm : P.follows .mixedOrders = true) {m f : Nat} {k : FCode} (hk : fitF P pures f k = true) {args : List AV} {H : Heap} {cx : Nat} {o : Out} (h : goF pures call m k args H cx = some o) : OkOut P f args H cx o := by
  obtain ⟨fn, b, h1, h2, h3, h4, h5, h6⟩ := fitF_parts hk
  unfold goF at h
  split at h
  case isFalse => cases h
  rename_i hlen
  split at h
  case h_2 => cases h
  rename_i e s cx' wr hc
  split at h
  case isFalse => cases h
  rename_i he
  split at h
  case h_2 => cases h
  rename_i v hv
  cases h
  obtain ⟨a1, a2, _⟩ := aC_ok (n := k.nt) hcall hm m k.c _ _ _ _ _ _ _ hc
  refine ⟨h6, fun Γ w F vs hb hF hH hA => ?_, a2.bd, a2.le, fun hw q hq => (a2.keep (Nat.le_refl _) hw).2 q hq⟩
  refine calls_of_wp h1 h2 (wp_mono (a1 b h5 F Γ w Γ _ w (by rw [h3]; exact conc_init hb hF hH hA hlen)) ?_)
  rintro e1 a' w' ⟨rfl, Γ', hc'⟩
  obtain ⟨u, g1, g2⟩ := retV_run hc' h4 hv
  have : a'.defers = [] ∧ ∃ v', (results fn a'.tmps).run P w' = .ok v' w' ∧ ∃ v'' r H' Γ'', Ending.returned v' = .returned v'' ∧ (r = v ∧ H' = s.H) ∧ Rep Γ'' r v'' ∧ Base Γ'' w' ∧ HeapRep Γ'' w' F H' ∧ Ext F Γ w Γ'' w' :=
    ⟨hc'.defers, u, g1, u, v, s.H, Γ', rfl, ⟨rfl, rfl⟩, g2, hc'.base, hc'.heap, hc'.ext⟩
  cases e with
  | normal => exact this
  | ret => exact this
  | exit id => cases he
  | goto l => cases he

/-- A copy of nothing. -/
def CloneOk (P : Program) (f : FuncId) (E : Nat) : Prop := ∀ (clip : Bool) (H : Heap), SpV P f [.ro E [] clip] H (.ro E [] true) H

/-- THE MACHINE IS SOUND. -/
theorem aF_ok {codes : Codes} (hm : P.follows .mixedOrders = true) (hfit : ∀ f k, codes.get f = some k → fitF P pures f k = true) (hcl : ∀ f k E, codes.get f = some k → k.clone = some E → CloneOk P f E) : ∀ m, CallOk P (aF pures codes m)
  | 0 => fun f args H cx o h => by cases h
  | m + 1 => fun f args H cx o h => by
    simp only [aF] at h
    split at h
    · rename_i k hk
      split at h
      · rename_i hcn
        cases h
        unfold cloneNone at hcn
        split at hcn
        · rename_i E E' clip hE
          simp only [beq_iff_eq] at hcn
          subst hcn
          obtain ⟨fn, b, h1, h2, h3, h4, h5, h6⟩ := fitF_parts (hfit f k hk)
          exact ⟨h6, by rw [hE]; exact hcl f k E hk hE clip H, fun h => h, Nat.le_refl _, fun _ _ _ => rfl⟩
        · cases hcn
      · exact goF_ok (aF_ok hm hfit hcl m) hm (hfit f k hk) h
    · cases h
end

end Go.Proofs.YtfhflogbffibiaaGreat

/-
  THE MACHINE is sound: code, functions.
-/
import Derived.Test.YtfhflogbffibiaaGreatVV
import Derived.LoopN
namespace Go.Proofs.YtfhflogbffibiaaGreat
open Go
set_option linter.unusedSimpArgs false
set_option linter.unusedVariables false

section
variable {P : Program} {pures : Nat → Bool} {call : CallA} {n : Nat} {base : Nat}

theorem Ex.to_inj {e e' : Ex} (h : e.to = e'.to) : e = e' := by
  cases e <;> cases e' <;> simp [Ex.to] at h <;> first | rfl | (subst h; rfl)

theorem lw_reg {rs : List LOpr} {nm : Nat} {s s' : St} (h : Steps' P nm rs s s') : LW P pures n (.reg rs) s .normal s' := fun c hf F Γ0 w0 Γ a w hc => by
  cases c <;> simp only [fitC, Bool.false_eq_true, Bool.and_eq_true, Bool.not_eq_true'] at hf
  rename_i id ops draw
  obtain ⟨rfl, hf⟩ := hf
  exact wp_region_list (steps_sound _ rs nm s s' Γ a w (fun Γ a w hc' => ⟨rfl, Γ, hc'⟩) hf hc h)

theorem lw_dreg (hm : P.follows .mixedOrders = true) {rs : List LOpr} {dyn : List (Nat × Nat)} {T : Nat → List Nat} {cx : Nat} {s s' : St} (hd : ∀ p ∈ dyn, disj (T p.1) (T p.2) = true) (h : DSs P pures T cx 0 rs s s') : LW P pures n (.dreg dyn rs) s .normal s' := fun c hf F Γ0 w0 Γ a w hc => by
  cases c <;> simp only [fitC, Bool.false_eq_true, Bool.and_eq_true] at hf
  rename_i id ops draw
  obtain ⟨⟨rfl, hf⟩, hD⟩ := hf
  simp only [drawOk, Bool.and_eq_true, beq_iff_eq] at hD
  refine wp_region_any hm ?_
  have := anyD_lex (P := P) (Q := fun x => x = s') hd rs 0 _ s s' (by simp) (by simp) hD.2 h rfl
  rw [hD.1] at this
  exact anyD_sound hf (fun s1 e Γ a w hc' => by subst e; exact ⟨rfl, Γ, hc'⟩) _ _ s Γ a _ (hc.drawn _) this

/-- CODE: what the machine says, the code does. -/
theorem aC_ok (hcall : CallOk P call) (hm : P.follows .mixedOrders = true) : ∀ (k : Nat) (lc : LCode) (s : St) (cx : Nat) (wr : Bool) (e : Ex) (s' : St) (cx' : Nat) (wr' : Bool), aC pures call base k lc s cx wr = some (e, s', cx', wr') →
    LW P pures n lc s e s' ∧ MoveOk base s.H cx wr s'.H cx' wr' ∧
    ∀ b, lc = .loop b → ∀ c, fitC P pures n c b = true → ∀ (F : Nat → Prop) (Γ0 : RO) (w0 : World) (Γ : RO) (a : Act) (w : World), Conc n F Γ0 w0 Γ s a w → Code.rounds P c (Post n F Γ0 w0 e s') k a w
  | 0, _, _, _, _, _, _, _, _, h => by cases h
  | k + 1, .skip, s, cx, wr, e, s', cx', wr', h => by
    cases h
    refine ⟨fun c hf F Γ0 w0 Γ a w hc => ?_, .refl, fun b hb => by cases hb⟩
    cases c <;> simp only [fitC, Bool.false_eq_true] at hf
    exact wp_skip ⟨rfl, Γ, hc⟩
  | k + 1, .reg rs, s, cx, wr, e, s', cx', wr', h => by
    simp only [aC] at h
    split at h
    · rename_i s1 cx1 wr1 h1
      cases h
      obtain ⟨h2, h3⟩ := aOps_ok hcall rs cx s (cx + rs.length) wr _ _ _ (Nat.le_refl _) h1
      exact ⟨lw_reg h2, ⟨fun hb => h3.bd fun q hq => hb q (by omega), by have := h3.le; omega, fun hb => h3.keep (by omega)⟩, fun b hb => by cases hb⟩
    · cases h
  | k + 1, .dreg dyn rs, s, cx, wr, e, s', cx', wr', h => by
    simp only [aC] at h
    split at h
    · rename_i s1 cx1 wr1 ts h1
      split at h
      · rename_i hd
        cases h
        obtain ⟨h2, h3, h4⟩ := dOps_ok hcall (fun i => ts.getD i []) rs 0 s (cx + rs.length) wr _ _ _ ts (by omega) (fun k hk => by simp) h1
        exact ⟨lw_dreg hm (fun p hp => List.all_eq_true.1 hd p hp) h2, ⟨fun hb => h3.bd fun q hq => hb q (by omega), by have := h3.le; omega, fun hb => h3.keep (by omega)⟩, fun b hb => by cases hb⟩
      · cases h
    · cases h
  | k + 1, .seq x y, s, cx, wr, e, s', cx', wr', h => by
    simp only [aC] at h
    split at h
    · rename_i s1 cx1 wr1 h1
      obtain ⟨a1, a2, _⟩ := aC_ok hcall hm k x _ _ _ _ _ _ _ h1
      obtain ⟨b1, b2, _⟩ := aC_ok hcall hm k y _ _ _ _ _ _ _ h
      refine ⟨fun c hf F Γ0 w0 Γ a w hc => ?_, a2.trans b2, fun b hb => by cases hb⟩
      cases c <;> simp only [fitC, Bool.false_eq_true, Bool.and_eq_true] at hf
      refine wp_seq (wp_mono (a1 _ hf.1 F Γ0 w0 Γ a w hc) ?_)
      rintro e1 a1' w1 ⟨rfl, Γ1, hc1⟩
      exact b1 _ hf.2 F Γ0 w0 Γ1 a1' w1 hc1
    · rename_i hne
      obtain ⟨a1, a2, _⟩ := aC_ok hcall hm k x _ _ _ _ _ _ _ h
      refine ⟨fun c hf F Γ0 w0 Γ a w hc => ?_, a2, fun b hb => by cases hb⟩
      cases c <;> simp only [fitC, Bool.false_eq_true, Bool.and_eq_true] at hf
      refine wp_seq (wp_mono (a1 _ hf.1 F Γ0 w0 Γ a w hc) ?_)
      rintro e1 a1' w1 ⟨rfl, Γ1, hc1⟩
      cases e with
      | normal => exact absurd h (hne _ _ _)
      | exit id => exact ⟨rfl, Γ1, hc1⟩
      | ret => exact ⟨rfl, Γ1, hc1⟩
      | goto l => exact ⟨rfl, Γ1, hc1⟩
  | k + 1, .cond co x y, s, cx, wr, e, s', cx', wr', h => by
    simp only [aC] at h
    split at h
    · rename_i b hb
      have conc : ∀ (z : LCode), LW P pures n z s e s' → (b = true → z = x) → (b = false → z = y) → LW P pures n (.cond co x y) s e s' := fun z hz e1 e2 c hf F Γ0 w0 Γ a w hc => by
        cases c <;> simp only [fitC, Bool.false_eq_true, Bool.and_eq_true] at hf
        obtain ⟨⟨f1, f2⟩, f3⟩ := hf
        have hv := (hb ▸ ev_rep hc f1 : Rep Γ (.bool b) _).bool_inv
        refine wp_cond_split hv (fun ht => ?_) (fun ht => ?_)
        · exact hz _ (by rw [e1 ht]; exact f2) F Γ0 w0 Γ a w hc
        · exact hz _ (by rw [e2 ht]; exact f3) F Γ0 w0 Γ a w hc
      cases b with
      | true =>
        obtain ⟨a1, a2, _⟩ := aC_ok hcall hm k x _ _ _ _ _ _ _ h
        exact ⟨conc x a1 (fun _ => rfl) (fun h => by cases h), a2, fun b hb => by cases hb⟩
      | false =>
        obtain ⟨a1, a2, _⟩ := aC_ok hcall hm k y _ _ _ _ _ _ _ h
        exact ⟨conc y a1 (fun h => by cases h) (fun _ => rfl), a2, fun b hb => by cases hb⟩
    · cases h
  | k + 1, .block id x, s, cx, wr, e, s', cx', wr', h => by
    simp only [aC] at h
    split at h
    · rename_i id' s1 cx1 wr1 h1
      obtain ⟨a1, a2, _⟩ := aC_ok hcall hm k x _ _ _ _ _ _ _ h1
      split at h
      · rename_i hid
        cases h
        refine ⟨fun c hf F Γ0 w0 Γ a w hc => ?_, a2, fun b hb => by cases hb⟩
        cases c <;> simp only [fitC, Bool.false_eq_true, Bool.and_eq_true, beq_iff_eq] at hf
        obtain ⟨rfl, hf⟩ := hf
        refine wp_block (wp_mono (a1 _ hf F Γ0 w0 Γ a w hc) ?_)
        rintro e1 a1' w1 ⟨rfl, Γ1, hc1⟩
        simp only [Ex.to, Exit.inBlock, hid, if_true]
        exact ⟨rfl, Γ1, hc1⟩
      · rename_i hid
        cases h
        refine ⟨fun c hf F Γ0 w0 Γ a w hc => ?_, a2, fun b hb => by cases hb⟩
        cases c <;> simp only [fitC, Bool.false_eq_true, Bool.and_eq_true, beq_iff_eq] at hf
        obtain ⟨rfl, hf⟩ := hf
        refine wp_block (wp_mono (a1 _ hf F Γ0 w0 Γ a w hc) ?_)
        rintro e1 a1' w1 ⟨rfl, Γ1, hc1⟩
        simp only [Ex.to, Exit.inBlock, hid, if_false]
        exact ⟨rfl, Γ1, hc1⟩
    · rename_i hne
      obtain ⟨a1, a2, _⟩ := aC_ok hcall hm k x _ _ _ _ _ _ _ h
      refine ⟨fun c hf F Γ0 w0 Γ a w hc => ?_, a2, fun b hb => by cases hb⟩
      cases c <;> simp only [fitC, Bool.false_eq_true, Bool.and_eq_true, beq_iff_eq] at hf
      obtain ⟨rfl, hf⟩ := hf
      refine wp_block (wp_mono (a1 _ hf F Γ0 w0 Γ a w hc) ?_)
      rintro e1 a1' w1 ⟨rfl, Γ1, hc1⟩
      cases e with
      | exit id => exact absurd h (hne _ _ _ _)
      | normal => exact ⟨rfl, Γ1, hc1⟩
      | ret => exact ⟨rfl, Γ1, hc1⟩
      | goto l => exact ⟨rfl, Γ1, hc1⟩
  | k + 1, .loop x, s, cx, wr, e, s', cx', wr', h => by
    have key : MoveOk base s.H cx wr s'.H cx' wr' ∧ ∀ c, fitC P pures n c x = true → ∀ (F : Nat → Prop) (Γ0 : RO) (w0 : World) (Γ : RO) (a : Act) (w : World), Conc n F Γ0 w0 Γ s a w → Code.rounds P c (Post n F Γ0 w0 e s') (k + 1) a w := by
      simp only [aC] at h
      split at h
      · rename_i s1 cx1 wr1 h1
        obtain ⟨a1, a2, _⟩ := aC_ok hcall hm k x _ _ _ _ _ _ _ h1
        obtain ⟨b1, b2, b3⟩ := aC_ok hcall hm k (.loop x) _ _ _ _ _ _ _ h
        refine ⟨a2.trans b2, fun c hf F Γ0 w0 Γ a w hc => ?_⟩
        rw [rounds_succ]
        refine wp_mono (a1 _ hf F Γ0 w0 Γ a w hc) ?_
        rintro e1 a1' w1 ⟨rfl, Γ1, hc1⟩
        exact b3 x rfl c hf F Γ0 w0 Γ1 a1' w1 hc1
      · rename_i hne
        obtain ⟨a1, a2, _⟩ := aC_ok hcall hm k x _ _ _ _ _ _ _ h
        refine ⟨a2, fun c hf F Γ0 w0 Γ a w hc => ?_⟩
        rw [rounds_succ]
        refine wp_mono (a1 _ hf F Γ0 w0 Γ a w hc) ?_
        rintro e1 a1' w1 ⟨rfl, Γ1, hc1⟩
        cases e with
        | normal => exact absurd h (hne _ _ _)
        | exit id => exact ⟨rfl, Γ1, hc1⟩
        | ret => exact ⟨rfl, Γ1, hc1⟩
        | goto l => exact ⟨rfl, Γ1, hc1⟩
    refine ⟨fun c hf F Γ0 w0 Γ a w hc => ?_, key.1, fun b hb => by cases hb; exact key.2⟩
    cases c <;> simp only [fitC, Bool.false_eq_true] at hf
    exact wp_loop_rounds (k + 1) (key.2 _ hf F Γ0 w0 Γ a w hc)
  | k + 1, .exit id, s, cx, wr, e, s', cx', wr', h => by
    cases h
    refine ⟨fun c hf F Γ0 w0 Γ a w hc => ?_, .refl, fun b hb => by cases hb⟩
    cases c <;> simp only [fitC, Bool.false_eq_true, beq_iff_eq] at hf
    subst hf
    exact wp_exit ⟨rfl, Γ, hc⟩
  | k + 1, .ret, s, cx, wr, e, s', cx', wr', h => by
    cases h
    refine ⟨fun c hf F Γ0 w0 Γ a w hc => ?_, .refl, fun b hb => by cases hb⟩
    cases c <;> simp only [fitC, Bool.false_eq_true] at hf
    exact wp_ret ⟨rfl, Γ, hc⟩
  | k + 1, .label l, s, cx, wr, e, s', cx', wr', h => by
    cases h
    refine ⟨fun c hf F Γ0 w0 Γ a w hc => ?_, .refl, fun b hb => by cases hb⟩
    cases c <;> simp only [fitC, Bool.false_eq_true, beq_iff_eq] at hf
    exact wp_label ⟨rfl, Γ, hc⟩
  | k + 1, .goto l, s, cx, wr, e, s', cx', wr', h => by
    cases h
    refine ⟨fun c hf F Γ0 w0 Γ a w hc => ?_, .refl, fun b hb => by cases hb⟩
    cases c <;> simp only [fitC, Bool.false_eq_true, beq_iff_eq] at hf
    subst hf
    exact wp_goto ⟨rfl, Γ, hc⟩
  | k + 1, .scope x, s, cx, wr, e, s', cx', wr', h => by
    simp only [aC] at h
    split at h
    · rename_i l s1 cx1 wr1 h1
      obtain ⟨a1, a2, _⟩ := aC_ok hcall hm k x _ _ _ _ _ _ _ h1
      split at h
      · rename_i c' hl
        have hb : aC pures call base k c' s1 cx1 wr1 = some (e, s', cx', wr') ∧ ∀ l', e ≠ .goto l' := by
          split at h
          · cases h
          · rename_i hne
            exact ⟨h, fun l' el => hne l' s' cx' wr' (by rw [← el]; exact h)⟩
        obtain ⟨b1, b2, _⟩ := aC_ok hcall hm k c' _ _ _ _ _ _ _ hb.1
        refine ⟨fun c hf F Γ0 w0 Γ a w hc => ?_, a2.trans b2, fun b hb => by cases hb⟩
        cases c <;> simp only [fitC, Bool.false_eq_true] at hf
        obtain ⟨rest, r1, r2⟩ := fit_label hf hl
        refine wp_scope_jumps l (fun a w => ∃ Γ1, Conc n F Γ0 w0 Γ1 s1 a w) (fun _ _ => 0) r1 (wp_mono (a1 _ hf F Γ0 w0 Γ a w hc) ?_) ?_
        · rintro e1 a1' w1 ⟨rfl, Γ1, hc1⟩
          exact ⟨rfl, Γ1, hc1⟩
        · rintro a1' w1 ⟨Γ1, hc1⟩
          refine wp_mono (b1 _ r2 F Γ0 w0 Γ1 a1' w1 hc1) ?_
          rintro e2 a2' w2 ⟨rfl, Γ2, hc2⟩
          cases e with
          | goto l' => exact absurd rfl (hb.2 l')
          | normal => exact ⟨rfl, Γ2, hc2⟩
          | exit id => exact ⟨rfl, Γ2, hc2⟩
          | ret => exact ⟨rfl, Γ2, hc2⟩
      · cases h
    · rename_i hne
      obtain ⟨a1, a2, _⟩ := aC_ok hcall hm k x _ _ _ _ _ _ _ h
      refine ⟨fun c hf F Γ0 w0 Γ a w hc => ?_, a2, fun b hb => by cases hb⟩
      cases c <;> simp only [fitC, Bool.false_eq_true] at hf
      refine wp_scope_straight (wp_mono (a1 _ hf F Γ0 w0 Γ a w hc) ?_)
      rintro e1 a1' w1 ⟨rfl, Γ1, hc1⟩
      cases e with
      | goto l => exact absurd h (hne _ _ _ _)
      | normal => exact ⟨rfl, Γ1, hc1⟩
      | exit id => exact ⟨rfl, Γ1, hc1⟩
      | ret => exact ⟨rfl, Γ1, hc1⟩
end

end Go.Proofs.YtfhflogbffibiaaGreat

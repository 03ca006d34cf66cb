/-
  The whole table fits; copies of nothing.
-/
import Derived.Test.YtfhflogbffibiaaGreatVX
namespace Go.Proofs.YtfhflogbffibiaaGreat
open Go
set_option linter.unusedSimpArgs false
set_option linter.unusedVariables false

/-- Every entry of a trie. -/
def Map.allI {α : Type} : Map α → (Nat → Nat) → (Nat → α → Prop) → Prop
  | .leaf, _, _ => True
  | .node l v r, g, p => (match v with | some a => p (g 0) a | none => True) ∧ l.allI (fun k => g (2 * k + 1)) p ∧ r.allI (fun k => g (2 * k + 2)) p

theorem Map.allI_get {α : Type} {p : Nat → α → Prop} : ∀ (m : Map α) (g : Nat → Nat), m.allI g p → ∀ k a, m.get k = some a → p (g k) a
  | .leaf, _, _, k, a, h => by cases h
  | .node l v r, g, hp, k, a, h => by
    obtain ⟨h1, h2, h3⟩ := hp
    have hbeq : ∀ x y : Nat, Nat.beq x y = decide (x = y) := fun x y => by
      cases hxy : Nat.beq x y with
      | true => simp [Nat.eq_of_beq_eq_true hxy]
      | false => simp [Nat.ne_of_beq_eq_false hxy]
    simp only [get, hbeq] at h
    by_cases hk : k = 0
    · subst hk
      simp only [decide_true, cond_true] at h
      subst h
      exact h1
    · simp only [hk, decide_false, cond_false] at h
      by_cases hk2 : k % 2 = 1
      · simp only [hk2, decide_true, cond_true] at h
        have := allI_get l _ h2 _ _ h
        rwa [show 2 * (k / 2) + 1 = k by omega] at this
      · simp only [hk2, decide_false, cond_false] at h
        have := allI_get r _ h3 _ _ h
        rwa [show 2 * (k / 2 - 1) + 2 = k by omega] at this

/-- The code of a copy. -/
def cloneL (E b : Nat) : LCode := .seq (.reg [⟨some 2, .mv (.k (.ro E [] true)), none⟩])
   (.seq (.seq (.reg [⟨some 3, .mv (.t 0), none⟩,
    ⟨some 4, .isnil (.t 3), none⟩])
   (.cond (.t 4) (.seq (.reg [⟨some 2, .mv (.k (.ro E [] true)), none⟩])
   (.ret)) (.skip)))
   (.seq (.reg [⟨some 5, .mks E [], none⟩,
    ⟨some 6, .mv (.t 0), none⟩,
    ⟨some 7, .app E b (.t 5) (.t 6), none⟩,
    ⟨some 2, .mv (.t 7), none⟩])
   (.ret)))

section
variable {P : Program} {pures : Nat → Bool} {n : Nat} {F : Nat → Prop} {Γ0 : RO} {w0 : World} {Γ : RO} {s : St} {a : Act} {w : World}

theorem noCall_ok : CallOk P (fun _ _ _ _ => none) := fun _ _ _ _ _ h => by cases h

theorem lw_seq {x y : LCode} {s s1 s' : St} {e : Ex} (h : LW P pures n x s .normal s1) (g : LW P pures n y s1 e s') : LW P pures n (.seq x y) s e s' := fun c hf F Γ0 w0 Γ a w hc => by
  cases c <;> simp only [fitC, Bool.false_eq_true, Bool.and_eq_true] at hf
  refine wp_seq (wp_mono (h _ hf.1 F Γ0 w0 Γ a w hc) ?_)
  rintro e1 a1 w1 ⟨rfl, Γ1, hc1⟩
  exact g _ hf.2 F Γ0 w0 Γ1 a1 w1 hc1

theorem lw_ret {s : St} : LW P pures n .ret s .ret s := fun c hf F Γ0 w0 Γ a w hc => by
  cases c <;> simp only [fitC, Bool.false_eq_true] at hf
  exact wp_ret ⟨rfl, Γ, hc⟩

/-- Is it nil? Of an empty slice both may be. -/
theorem yields_isnil0 (hc : Conc n F Γ0 w0 Γ s a w) {o : Oper} {x : LA} {E : Nat} {clip : Bool} (hf : fitOp P o.op (.isnil x) = true) (hx : x.ev s.fr = .ro E [] clip) : ∃ b, Yields P Γ a w o (.bool b) := by
  generalize hop : o.op = op at hf
  cases op <;> try (simp only [fitOp, Bool.false_eq_true] at hf; done)
  rename_i bo t x' y' t'
  simp only [fitOp, Bool.and_eq_true, beq_iff_eq] at hf
  obtain ⟨⟨⟨rfl, k1⟩, f1⟩, k3⟩ := hf
  have := isNilK_some k1
  subst this
  split at k3
  · rename_i e hu
    have hr := ev_rep hc f1
    rw [hx] at hr
    have hv : ∃ q cap, a.eval x' = .slice q 0 cap := by
      generalize a.eval x' = u at hr
      generalize hxs : ([] : List (List AV)) = xs at hr
      cases hr with
      | ro E xs clip b p cap f => subst hxs; exact ⟨_, _, rfl⟩
      | ro0 E clip q cap => exact ⟨_, _, rfl⟩
    obtain ⟨q, cap, hv⟩ := hv
    refine ⟨q.isNone, .bool q.isNone, ?_, .bool _⟩
    have heq : (Op.equal t (.slice q 0 cap) (.slice none 0 0)).run P w = .ok q.isNone w := by
      show (Op.equalIn (9999 + 1) t _ _).run P w = _
      generalize 9999 = d
      cases q <;> simp [Op.equalIn, run_underlying hu]
    have hg : (eqGuard .eql t x' (.const (.slice none 0 0)) (.slice q 0 cap) (.slice none 0 0)).run P w = .ok () w := by
      simp [eqGuard]
    have hk : a.eval (.const (.slice none 0 0)) = .slice none 0 0 := rfl
    simp [execOp, hop, hv, hk, hg, binOp, heq]
  · cases k3

theorem cloneOk {f E b : Nat} (hk : fitF P pures f ⟨8, cloneL E b, [.tmp 2], some E⟩ = true) (hm : P.follows .mixedOrders = true) : CloneOk P f E := by
  obtain ⟨fn, body, h1, h2, h3, h4, h5, h6⟩ := fitF_parts hk
  intro clip H Γ w F vs hb hF hH hA
  have h3' : fn.ntmps = 8 := h3
  have h5' : fitC P pures 8 body (cloneL E b) = true := h5
  have hc := conc_init (nt := 8) hb hF hH hA (by simp)
  have key : body.wp P (fun e a' w' => e = .ret ∧ ∃ s' Γ', s'.fr 2 = .ro E [] true ∧ s'.H = H ∧ Conc 8 F Γ w Γ' s' a' w') { tmps := vs.toArray ++ Array.replicate (8 - vs.toArray.size) undef, defers := [] } w := by
    generalize ({ tmps := vs.toArray ++ Array.replicate (8 - vs.toArray.size) undef, defers := [] } : Act) = a at hc ⊢
    unfold cloneL at h5'
    cases body <;> try (simp only [fitC, Bool.false_eq_true] at h5'; done)
    rename_i c0 c1
    simp only [fitC, Bool.and_eq_true] at h5'
    obtain ⟨f0, f1⟩ := h5'
    cases c1 <;> try (simp only [fitC, Bool.false_eq_true] at f1; done)
    rename_i c2 c3
    simp only [fitC, Bool.and_eq_true] at f1
    obtain ⟨f2, f3⟩ := f1
    cases c2 <;> try (simp only [fitC, Bool.false_eq_true] at f2; done)
    rename_i c4 c5
    simp only [fitC, Bool.and_eq_true] at f2
    obtain ⟨f4, f5⟩ := f2
    let s0 := initA [.ro E [] clip] H
    let s1 := s0.app (some 2) (.ro E [] true) []
    have g0 : LW P pures 8 (.reg [⟨some 2, .mv (.k (.ro E [] true)), none⟩]) s0 .normal s1 :=
      lw_reg (nm := 0) (.cons _ _ _ _ _ _ (.run _ [] (fun t p h => by cases h) rfl) (.nil _ _))
    refine wp_seq (wp_mono (g0 _ f0 F Γ w Γ a w hc) ?_)
    rintro e1 a1 w1 ⟨rfl, Γ1, hc1⟩
    have g1 : c4.wp P (fun e' a' w' => e' = .normal ∧ ∃ bb Γ', Conc 8 F Γ w Γ' ((s1.app (some 3) (.ro E [] clip) []).app (some 4) (.bool bb) []) a' w') a1 w1 := by
      cases c4 <;> try (simp only [fitC, Bool.false_eq_true] at f4; done)
      rename_i id ops draw
      simp only [fitC, Bool.and_eq_true, Bool.not_eq_true'] at f4
      obtain ⟨rfl, f4⟩ := f4
      refine wp_region_list ?_
      generalize hos : ops.toList = os at f4
      match os, f4 with
      | [], f4 => cases f4
      | [o], f4 => simp [fitRs] at f4
      | o1 :: o2 :: o3 :: os, f4 => simp [fitRs] at f4
      | [o1, o2], f4 =>
        simp only [fitRs, Bool.and_eq_true] at f4
        obtain ⟨k1, k2, _⟩ := f4
        let Qr : Exit → Act → World → Prop := fun e' a' w' => e' = .normal ∧ ∃ bb Γ', Conc 8 F Γ w Γ' ((s1.app (some 3) (.ro E [] clip) []).app (some 4) (.bool bb) []) a' w'
        show wpList P ops Qr [o1, o2] a1 w1
        have st := step_goes (Q := Qr) (nm := 0) hc1 k1 (s' := s1.app (some 3) (.ro E [] clip) []) (.run _ [] (fun t p h => by cases h) rfl)
          (next := wpList P ops Qr [o2]) (fun Γ2 a2 w2 hc2 => by
            obtain ⟨q1, q2, q3, _, q4⟩ := fitR_parts k2
            obtain ⟨bb, hy⟩ := yields_isnil0 hc2 (E := E) (clip := clip) q4 rfl
            have hd := does_yields hc2 (o := o2) (fun x hx => q2 x (by rw [← q1]; exact hx)) hy
            rw [q1] at hd
            unfold wpList
            rw [if_pos (wanted_none (fitG_none q3))]
            exact .inl (does_wp hd (fun Γ3 a3 w3 hc3 => (⟨rfl, bb, Γ3, hc3⟩ : Qr .normal a3 w3))))
        unfold Comes' at st
        unfold wpList
        split
        · rename_i hw; rw [if_pos hw] at st; exact .inl st
        · rename_i hw; rw [if_neg hw] at st; exact st
    refine wp_seq (wp_seq (wp_mono g1 ?_))
    rintro e2 a2 w2 ⟨rfl, bb, Γ2, hc2⟩
    let s2 := (s1.app (some 3) (.ro E [] clip) []).app (some 4) (.bool bb) []
    have hcl : (if E = E then some ([] : List (List AV)) else none) = some [] := by simp
    cases bb with
    | true =>
      have g2 : LW P pures 8 (.cond (.t 4) (.seq (.reg [⟨some 2, .mv (.k (.ro E [] true)), none⟩]) (.ret)) (.skip)) ((s1.app (some 3) (.ro E [] clip) []).app (some 4) (.bool true) []) .ret (((s1.app (some 3) (.ro E [] clip) []).app (some 4) (.bool true) []).app (some 2) (.ro E [] true) []) :=
        (aC_ok (pures := pures) (base := 0) (n := 8) noCall_ok hm 3 _ _ 0 false _ _ 1 false rfl).1
      refine wp_mono (g2 _ f5 F Γ w Γ2 a2 w2 hc2) ?_
      rintro e3 a3 w3 ⟨rfl, Γ3, hc3⟩
      exact ⟨rfl, _, Γ3, rfl, rfl, hc3⟩
    | false =>
      have g2 : LW P pures 8 (.cond (.t 4) (.seq (.reg [⟨some 2, .mv (.k (.ro E [] true)), none⟩]) (.ret)) (.skip)) ((s1.app (some 3) (.ro E [] clip) []).app (some 4) (.bool false) []) .normal ((s1.app (some 3) (.ro E [] clip) []).app (some 4) (.bool false) []) :=
        (aC_ok (pures := pures) (base := 0) (n := 8) noCall_ok hm 3 _ _ 0 false _ _ 0 false rfl).1
      refine wp_mono (g2 _ f5 F Γ w Γ2 a2 w2 hc2) ?_
      rintro e3 a3 w3 ⟨rfl, Γ3, hc3⟩
      let s3 := (s1.app (some 3) (.ro E [] clip) []).app (some 4) (.bool false) []
      have g3 : ∃ s4, LW P pures 8 (.seq (.reg [⟨some 5, .mks E [], none⟩, ⟨some 6, .mv (.t 0), none⟩, ⟨some 7, .app E b (.t 5) (.t 6), none⟩, ⟨some 2, .mv (.t 7), none⟩]) (.ret)) s3 .ret s4 ∧ s4.fr 2 = .ro E [] true ∧ s4.H = H := by
        refine ⟨(((s3.app (some 5) (.ro E [] true) []).app (some 6) (.ro E [] clip) []).app (some 7) (.ro E [] true) []).app (some 2) (.ro E [] true) [], ?_, rfl, rfl⟩
        have hr : Steps' P 0 [⟨some 5, .mks E [], none⟩, ⟨some 6, .mv (.t 0), none⟩, ⟨some 7, .app E b (.t 5) (.t 6), none⟩, ⟨some 2, .mv (.t 7), none⟩] s3 ((((s3.app (some 5) (.ro E [] true) []).app (some 6) (.ro E [] clip) []).app (some 7) (.ro E [] true) []).app (some 2) (.ro E [] true) []) := by
          refine .cons _ _ _ _ _ _ (.run (.ro E [] true) [] (fun t p h => by cases h) rfl) ?_
          refine .cons _ _ _ _ _ _ (.run (.ro E [] clip) [] (fun t p h => by cases h) rfl) ?_
          refine .cons _ _ _ _ _ _ (.run (.ro E [] true) [] (fun t p h => by cases h) ?_) ?_
          · show appV H 2 E b (.ro E [] true) (elsV H E (.ro E [] clip)) = _
            simp [elsV, appV, app0]
          refine .cons _ _ _ _ _ _ (.run (.ro E [] true) [] (fun t p h => by cases h) rfl) (.nil _ _)
        exact lw_seq (lw_reg hr) lw_ret
      obtain ⟨s4, g4, e4, e5⟩ := g3
      refine wp_mono (g4 _ f3 F Γ w Γ3 a3 w3 hc3) ?_
      rintro e6 a4 w4 ⟨rfl, Γ4, hc4⟩
      exact ⟨rfl, s4, Γ4, e4, e5, hc4⟩
  refine calls_of_wp h1 h2 (wp_mono (by rw [h3']; exact key) ?_)
  rintro e a' w' ⟨rfl, s', Γ', e1, e2, hc'⟩
  obtain ⟨u, g1, g2⟩ := retV_run hc' h4 (r := .ro E [] true) (by show retV s'.fr s'.H [.tmp 2] = _; simp [retV, resV, e1])
  exact ⟨hc'.defers, u, g1, u, .ro E [] true, s'.H, Γ', rfl, ⟨rfl, e2⟩, g2, hc'.base, hc'.heap, hc'.ext⟩
end

end Go.Proofs.YtfhflogbffibiaaGreat

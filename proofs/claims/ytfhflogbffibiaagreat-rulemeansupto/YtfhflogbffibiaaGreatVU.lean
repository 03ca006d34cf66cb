/-
  Two operations change places; a region that draws its order: the order of the text serves.
-/
import Derived.Test.YtfhflogbffibiaaGreatVT
namespace Go.Proofs.YtfhflogbffibiaaGreat
open Go
set_option linter.unusedSimpArgs false
set_option linter.unusedVariables false

/-- A STEP's EFFECT in a region that draws: its value and the heap behind it. -/
inductive Ef (P : Program) (pures : Nat → Bool) (cx nm : Nat) (r : LOpr) (fr : Nat → AV) (H : Heap) : AV → Heap → Prop where
  | skip (t p) : r.g = some (t, p) → guardOk (fr t) → guardB p (fr t) = false → Ef P pures cx nm r fr H undefAV H
  | run (av ws) : (∀ t p, r.g = some (t, p) → guardOk (fr t) ∧ guardB p (fr t) = true) → r.op.run nm fr H = some (av, ws) → Ef P pures cx nm r fr H av (updH H ws)
  | pcall (f args v) : (∀ t p, r.g = some (t, p) → guardOk (fr t) ∧ guardB p (fr t) = true) → r.op = .pcall f args → (∀ H, SpV P f (evs fr args) H v H) → Ef P pures cx nm r fr H v H
  | fcall (f args v H1) : (∀ t p, r.g = some (t, p) → guardOk (fr t) ∧ guardB p (fr t) = true) → r.op = .call f args → SpV P f (evs fr args) H v H1 → Ef P pures cx nm r fr H v H1
  | kcall (f args v H1) : (∀ t p, r.g = some (t, p) → guardOk (fr t) ∧ guardB p (fr t) = true) → r.op = .kcall f args → SpV P f (evs fr args) H v H1 → (∀ q, q < cx → H1 q = H q) → Ef P pures cx nm r fr H v H1
  | vcall (x args f caps v H1) : (∀ t p, r.g = some (t, p) → guardOk (fr t) ∧ guardB p (fr t) = true) → r.op = .callv x args → x.ev fr = .fn f caps → entersB P f = true → SpV P f (evs fr args ++ caps) H v H1 → Ef P pures cx nm r fr H v H1

section
variable {P : Program} {pures : Nat → Bool} {cx nm : Nat} {r : LOpr} {fr fr' : Nat → AV} {H H1 : Heap} {v : AV}

theorem Ef.step {s : St} (h : Ef P pures cx nm r s.fr s.H v H1) : Step P nm r s { fr := updF s.fr r.d v, H := H1 } := by
  cases h with
  | skip t p h1 h2 h3 => exact .skip t p h1 h2 h3
  | run av ws h1 h2 => exact .run _ ws h1 h2
  | pcall f args _ h1 h2 h4 => exact .call f args _ _ h1 (.inr (.inl h2)) (h4 s.H)
  | fcall f args _ _ h1 h2 h4 => exact .call f args _ _ h1 (.inl h2) h4
  | kcall f args _ _ h1 h2 h4 _ => exact .call f args _ _ h1 (.inr (.inr h2)) h4
  | vcall x args f caps _ _ h1 h2 h3 h4 h5 => exact .callv x args f caps _ _ h1 h2 h3 h4 h5

theorem ef_fr (hf : ∀ t ∈ r.rd, fr t = fr' t) (h : Ef P pures cx nm r fr H v H1) : Ef P pures cx nm r fr' H v H1 := by
  have hs : ∀ t ∈ r.op.slots, fr t = fr' t := fun t ht => hf t (by simp [LOpr.rd, ht])
  have hg : ∀ {t p}, r.g = some (t, p) → fr t = fr' t := fun {t p} h => hf t (by simp [LOpr.rd, h])
  have G : (∀ t p, r.g = some (t, p) → guardOk (fr t) ∧ guardB p (fr t) = true) → ∀ t p, r.g = some (t, p) → guardOk (fr' t) ∧ guardB p (fr' t) = true := fun h t p e => by rw [← hg e]; exact h t p e
  cases h with
  | skip t p h1 h2 h3 => exact .skip t p h1 (hg h1 ▸ h2) (hg h1 ▸ h3)
  | run av ws h1 h2 => exact .run _ ws (G h1) (by rw [← run_congr hs]; exact h2)
  | pcall f args _ h1 h2 h4 => exact .pcall f args _ (G h1) h2 (by rw [← evs_congr (ps := args) (fun t ht => hs t (by rw [h2]; exact ht))]; exact h4)
  | fcall f args _ _ h1 h2 h4 => exact .fcall f args _ _ (G h1) h2 (by rw [← evs_congr (ps := args) (fun t ht => hs t (by rw [h2]; exact ht))]; exact h4)
  | kcall f args _ _ h1 h2 h4 h5 => exact .kcall f args _ _ (G h1) h2 (by rw [← evs_congr (ps := args) (fun t ht => hs t (by rw [h2]; exact ht))]; exact h4) h5
  | vcall x args f caps _ _ h1 h2 h3 h4 h5 =>
    exact .vcall x args f caps _ _ (G h1) h2 (by rw [← ev_congr (x := x) (fun t ht => hs t (by rw [h2]; simp [LOp.slots, ht]))]; exact h3) h4 (by rw [← evs_congr (ps := args) (fun t ht => hs t (by rw [h2]; simp only [LOp.slots, List.mem_append]; exact .inr ht))]; exact h5)

theorem ef_V (hc : r.op.cls pures = .V) (h : Ef P pures cx nm r fr H v H1) : H1 = H ∧ ∀ H', Ef P pures cx nm r fr H' v H' := by
  cases h with
  | skip t p h1 h2 h3 => exact ⟨rfl, fun H' => .skip t p h1 h2 h3⟩
  | run av ws h1 h2 =>
    obtain ⟨rfl, e2⟩ := run_V hc h2
    exact ⟨rfl, fun H' => .run (H := H') _ [] h1 (e2 H')⟩
  | pcall f args _ h1 h2 h4 => exact ⟨rfl, fun H' => .pcall f args _ h1 h2 h4⟩
  | fcall f args _ _ h1 h2 h4 => rw [h2] at hc; simp [LOp.cls] at hc
  | kcall f args _ _ h1 h2 h4 h5 => rw [h2] at hc; simp [LOp.cls] at hc
  | vcall x args f caps _ _ h1 h2 h3 h4 h5 => rw [h2] at hc; simp [LOp.cls] at hc

theorem ef_L (hc : r.op.cls pures = .L) (h : Ef P pures cx nm r fr H v H1) : H1 = H ∧ ∀ H', (∀ q ∈ r.op.tops nm fr, H' q = H q) → Ef P pures cx nm r fr H' v H' := by
  have hop : (∃ x m ag, r.op = .ld x m ag) ∨ ∃ E x lo hi mx, r.op = .slc E x lo hi mx := by
    cases hq : r.op <;> rw [hq] at hc <;> simp [LOp.cls] at hc <;> try (split at hc <;> cases hc)
    · exact .inl ⟨_, _, _, rfl⟩
    · exact .inr ⟨_, _, _, _, _, rfl⟩
  cases h with
  | skip t p h1 h2 h3 => exact ⟨rfl, fun H' _ => .skip t p h1 h2 h3⟩
  | run av ws h1 h2 =>
    obtain ⟨rfl, e2⟩ := run_L hop h2
    exact ⟨rfl, fun H' hq => .run (H := H') _ [] h1 (e2 H' hq)⟩
  | pcall f args _ h1 h2 h4 => rw [h2] at hc; simp [LOp.cls] at hc
  | fcall f args _ _ h1 h2 h4 => rw [h2] at hc; simp [LOp.cls] at hc
  | kcall f args _ _ h1 h2 h4 h5 => rw [h2] at hc; simp [LOp.cls] at hc
  | vcall x args f caps _ _ h1 h2 h3 h4 h5 => rw [h2] at hc; simp [LOp.cls] at hc

theorem ef_A (hc : r.op.cls pures = .A) (h : Ef P pures cx nm r fr H v H1) : ∃ ws, H1 = updH H ws ∧ (∀ p ∈ ws, p.1 = nm) ∧ ∀ H', H' nm = H nm → Ef P pures cx nm r fr H' v (updH H' ws) := by
  have hop : (∃ zs, r.op = .alloc zs) ∨ (∃ x, r.op = .box x) ∨ ∃ E zs x y, r.op = .mkz E zs x y := by
    cases hq : r.op <;> rw [hq] at hc <;> simp [LOp.cls] at hc <;> try (split at hc <;> cases hc)
    · exact .inl ⟨_, rfl⟩
    · exact .inr (.inl ⟨_, rfl⟩)
    · exact .inr (.inr ⟨_, _, _, _, rfl⟩)
  cases h with
  | skip t p h1 h2 h3 => exact ⟨[], rfl, fun p hp => (by cases hp), fun H' _ => .skip t p h1 h2 h3⟩
  | run av ws h1 h2 =>
    obtain ⟨e1, e2⟩ := run_A hop h2
    exact ⟨ws, rfl, e1, fun H' hq => .run _ ws h1 (e2 H' hq)⟩
  | pcall f args _ h1 h2 h4 => rw [h2] at hc; simp [LOp.cls] at hc
  | fcall f args _ _ h1 h2 h4 => rw [h2] at hc; simp [LOp.cls] at hc
  | kcall f args _ _ h1 h2 h4 h5 => rw [h2] at hc; simp [LOp.cls] at hc
  | vcall x args f caps _ _ h1 h2 h3 h4 h5 => rw [h2] at hc; simp [LOp.cls] at hc

theorem ef_C (hc : r.op.cls pures = .C) (h : Ef P pures cx nm r fr H v H1) : ∀ q, q < cx → H1 q = H q := by
  cases h with
  | skip t p h1 h2 h3 => exact fun q _ => rfl
  | run av ws h1 h2 =>
    exfalso
    cases hq : r.op <;> rw [hq] at hc h2 <;> simp [LOp.cls] at hc <;> cases h2
  | pcall f args _ h1 h2 h4 => exact fun q _ => rfl
  | fcall f args _ _ h1 h2 h4 => rw [h2] at hc; simp [LOp.cls] at hc
  | kcall f args _ _ h1 h2 h4 h5 => exact h5
  | vcall x args f caps _ _ h1 h2 h3 h4 h5 => rw [h2] at hc; simp [LOp.cls] at hc

theorem ef_W (hc : r.op.cls pures = .W) (h : Ef P pures cx nm r fr H v H1) : ∃ ws, H1 = updH H ws ∧ ∀ p ∈ ws, p.1 = nm ∨ p.1 ∈ r.op.tops nm fr := by
  cases h with
  | skip t p h1 h2 h3 => exact ⟨[], rfl, fun p hp => by cases hp⟩
  | run av ws h1 h2 => exact ⟨ws, rfl, fun p hp => (run_ws h2 p hp).elim (fun h => .inl h.1) (fun h => .inr h.1)⟩
  | pcall f args _ h1 h2 h4 => rw [h2] at hc; simp [LOp.cls] at hc
  | fcall f args _ _ h1 h2 h4 => rw [h2] at hc; simp [LOp.cls] at hc
  | kcall f args _ _ h1 h2 h4 h5 => rw [h2] at hc; simp [LOp.cls] at hc
  | vcall x args f caps _ _ h1 h2 h3 h4 h5 => rw [h2] at hc; simp [LOp.cls] at hc

theorem updH_out {q : Nat} : ∀ {ws : List (Nat × HO)} {H : Heap}, (∀ p ∈ ws, p.1 ≠ q) → updH H ws q = H q
  | [], _, _ => rfl
  | (m, o) :: r, H, h => by
    simp only [updH]
    rw [updH_out fun p hp => h p (by simp [hp])]
    exact upd_ne _ _ _ (fun e => h (m, o) (by simp) e.symm)

theorem updH_agree {q : Nat} : ∀ {ws : List (Nat × HO)} {H H' : Heap}, H q = H' q → updH H ws q = updH H' ws q
  | [], _, _, h => h
  | (m, o) :: r, H, H', h => by
    simp only [updH]
    exact updH_agree (by by_cases e : q = m <;> simp [upd, e, h])

theorem updH_comm {w1 w2 : List (Nat × HO)} {n1 n2 : Nat} (h1 : ∀ p ∈ w1, p.1 = n1) (h2 : ∀ p ∈ w2, p.1 = n2) (hn : n1 ≠ n2) : updH (updH H w1) w2 = updH (updH H w2) w1 := by
  funext q
  by_cases e : q = n1
  · rw [updH_out (ws := w2) (fun p hp => by rw [h2 p hp, e]; exact Ne.symm hn)]
    exact (updH_agree (updH_out fun p hp => by rw [h2 p hp, e]; exact Ne.symm hn)).symm
  · rw [updH_out (ws := w1) (H := updH H w2) (fun p hp => by rw [h1 p hp]; exact fun h => e h.symm)]
    exact updH_agree (updH_out fun p hp => by rw [h1 p hp]; exact fun h => e h.symm)
end

def disj (xs ys : List Nat) : Bool := xs.all fun x => !ys.contains x

theorem disj_spec {xs ys : List Nat} (h : disj xs ys = true) : ∀ t ∈ xs, t ∉ ys := fun t ht hy => by
  have := List.all_eq_true.1 h t ht
  simp at this; exact this hy

def slotsApart (x y : LOpr) : Bool := disj x.d.toList (y.rd ++ y.d.toList) && disj y.d.toList x.rd

def Cls.ok : Cls → Cls → Bool
  | .V, _ | _, .V => true
  | .L, .L | .L, .A | .A, .L | .A, .A | .L, .C | .C, .L => true
  | _, _ => false

/-- They may change places; T: the names at hand. -/
def Ap (pures : Nat → Bool) (T : Nat → List Nat) (i : Nat) (x : LOpr) (j : Nat) (y : LOpr) : Prop :=
  slotsApart x y = true ∧ (Cls.ok (x.op.cls pures) (y.op.cls pures) = true ∨ (x.op.cls pures = .W ∧ y.op.cls pures = .L ∧ disj (T i) (T j) = true) ∨ (x.op.cls pures = .L ∧ y.op.cls pures = .W ∧ disj (T j) (T i) = true))

/-- A step of a region that draws. -/
def DS (P : Program) (pures : Nat → Bool) (T : Nat → List Nat) (cx i : Nat) (r : LOpr) (s s' : St) : Prop :=
  ∃ v H1, Ef P pures cx (cx + i) r s.fr s.H v H1 ∧ r.op.tops (cx + i) s.fr = T i ∧ (r.op.cls pures = .L → ∀ q ∈ T i, q < cx) ∧ s' = { fr := updF s.fr r.d v, H := H1 }

section
variable {P : Program} {pures : Nat → Bool} {T : Nat → List Nat} {cx i j : Nat} {x y : LOpr}

theorem updF_in {fr : Nat → AV} {d : Option Nat} {v : AV} {t : Nat} (h : t ∈ d.toList) : updF fr d v t = v := by
  cases d with
  | none => simp at h
  | some d => simp at h; subst h; simp [updF, upd_same]
theorem updF_out {fr : Nat → AV} {d : Option Nat} {v : AV} {t : Nat} (h : t ∉ d.toList) : updF fr d v t = fr t := by
  cases d with
  | none => rfl
  | some d => simp at h; simp [updF, upd_ne _ _ _ h]

theorem swapH (hij : i ≠ j) {fr : Nat → AV} {H H1 H2 : Heap} {v u : AV} (e1 : Ef P pures cx (cx + i) x fr H v H1) (e2 : Ef P pures cx (cx + j) y fr H1 u H2) (t1 : x.op.tops (cx + i) fr = T i) (t2 : y.op.tops (cx + j) fr = T j)
    (l1 : x.op.cls pures = .L → ∀ q ∈ T i, q < cx) (l2 : y.op.cls pures = .L → ∀ q ∈ T j, q < cx)
    (hc : Cls.ok (x.op.cls pures) (y.op.cls pures) = true ∨ (x.op.cls pures = .W ∧ y.op.cls pures = .L ∧ disj (T i) (T j) = true) ∨ (x.op.cls pures = .L ∧ y.op.cls pures = .W ∧ disj (T j) (T i) = true)) :
    ∃ H1', Ef P pures cx (cx + j) y fr H u H1' ∧ Ef P pures cx (cx + i) x fr H1' v H2 := by
  by_cases hx : x.op.cls pures = .V
  · obtain ⟨rfl, h⟩ := ef_V hx e1
    exact ⟨H2, e2, h H2⟩
  by_cases hy : y.op.cls pures = .V
  · obtain ⟨rfl, h⟩ := ef_V hy e2
    exact ⟨H, h H, e1⟩
  by_cases hxL : x.op.cls pures = .L
  · obtain ⟨rfl, h⟩ := ef_L hxL e1
    refine ⟨H2, e2, h H2 fun q hq => ?_⟩
    rw [t1] at hq
    have hlt := l1 hxL q hq
    cases hyc : y.op.cls pures with
    | V => exact absurd hyc hy
    | L => rw [(ef_L hyc e2).1]
    | A =>
      obtain ⟨ws, rfl, h2, _⟩ := ef_A hyc e2
      exact updH_out fun p hp e => by rw [h2 p hp] at e; omega
    | C => exact ef_C hyc e2 q hlt
    | X => rw [hxL, hyc] at hc; simp [Cls.ok] at hc
    | W =>
      obtain ⟨ws, rfl, h2⟩ := ef_W hyc e2
      rcases hc with hc | hc | hc
      · rw [hxL, hyc] at hc; cases hc
      · rw [hxL] at hc; cases hc.1
      · refine updH_out fun p hp e => ?_
        rcases h2 p hp with h' | h'
        · rw [e] at h'; omega
        · rw [t2, e] at h'; exact disj_spec hc.2.2 q h' hq
  by_cases hyL : y.op.cls pures = .L
  · obtain ⟨rfl, h⟩ := ef_L hyL e2
    refine ⟨H, h H fun q hq => ?_, e1⟩
    rw [t2] at hq
    have hlt := l2 hyL q hq
    cases hxc : x.op.cls pures with
    | V => exact absurd hxc hx
    | L => exact absurd hxc hxL
    | A =>
      obtain ⟨ws, rfl, h2, _⟩ := ef_A hxc e1
      exact (updH_out fun p hp e => by rw [h2 p hp] at e; omega).symm
    | C => exact (ef_C hxc e1 q hlt).symm
    | X => rw [hyL, hxc] at hc; simp [Cls.ok] at hc
    | W =>
      obtain ⟨ws, rfl, h2⟩ := ef_W hxc e1
      rcases hc with hc | hc | hc
      · rw [hyL, hxc] at hc; cases hc
      · refine (updH_out fun p hp e => ?_).symm
        rcases h2 p hp with h' | h'
        · rw [e] at h'; omega
        · rw [t1, e] at h'; exact disj_spec hc.2.2 q h' hq
      · rw [hxc] at hc; cases hc.1
  have hA : x.op.cls pures = .A ∧ y.op.cls pures = .A := by
    cases hxc : x.op.cls pures <;> cases hyc : y.op.cls pures <;> rw [hxc, hyc] at hc <;> simp_all [Cls.ok]
  obtain ⟨w1, rfl, a1, a2⟩ := ef_A hA.1 e1
  obtain ⟨w2, rfl, b1, b2⟩ := ef_A hA.2 e2
  refine ⟨updH H w2, b2 H (updH_out fun p hp e => by rw [a1 p hp] at e; omega).symm, ?_⟩
  rw [updH_comm a1 b1 (by omega)]
  exact a2 _ (updH_out fun p hp e => by rw [b1 p hp] at e; omega)

/-- TWO STEPS CHANGE PLACES. -/
theorem swap (hij : i ≠ j) {s s1 s2 : St} (hi : DS P pures T cx i x s s1) (hj : DS P pures T cx j y s1 s2) (hap : Ap pures T i x j y) : ∃ s1', DS P pures T cx j y s s1' ∧ DS P pures T cx i x s1' s2 := by
  obtain ⟨v, H1, e1, t1, l1, rfl⟩ := hi
  obtain ⟨u, H2, e2, t2, l2, rfl⟩ := hj
  obtain ⟨hs, hc⟩ := hap
  simp only [slotsApart, Bool.and_eq_true] at hs
  have d1 := disj_spec hs.1; have d2 := disj_spec hs.2
  have fy : ∀ t ∈ y.rd, updF s.fr x.d v t = s.fr t := fun t ht => updF_out fun h => d1 t h (by simp [ht])
  have fx : ∀ t ∈ x.rd, updF s.fr y.d u t = s.fr t := fun t ht => updF_out fun h => d2 t h ht
  have e2' := ef_fr fy e2
  have t2' : y.op.tops (cx + j) s.fr = T j := by rw [← tops_congr (fun t ht => fy t (by simp [LOpr.rd, ht]))]; exact t2
  obtain ⟨H1', k1, k2⟩ := swapH hij e1 e2' t1 t2' l1 l2 hc
  refine ⟨{ fr := updF s.fr y.d u, H := H1' }, ⟨u, H1', k1, t2', l2, rfl⟩, v, H2, ef_fr (fun t ht => (fx t ht).symm) k2, ?_, l1, ?_⟩
  · show x.op.tops (cx + i) (updF s.fr y.d u) = T i
    rw [tops_congr (fun t ht => fx t (by simp [LOpr.rd, ht]))]; exact t1
  · congr 1
    funext t
    show updF (updF s.fr x.d v) y.d u t = updF (updF s.fr y.d u) x.d v t
    by_cases hx : t ∈ x.d.toList
    · rw [updF_out (d := y.d) (fun h => d1 t hx (by simp [h])), updF_in hx, updF_in hx]
    · rw [updF_out (d := x.d) (fr := updF s.fr y.d u) hx]
      by_cases hy : t ∈ y.d.toList
      · rw [updF_in hy, updF_in hy]
      · rw [updF_out hy, updF_out hy, updF_out hx]
end

def anyD (P : Program) (pures : Nat → Bool) (T : Nat → List Nat) (cx : Nat) (md : Region.Mode) (ops : Array Oper) (rs : List LOpr) (Q : St → Prop) : Nat → Array Bool → St → Prop
  | 0, listed, s => Region.ready md ops listed = [] ∧ Q s
  | fuel + 1, listed, s => (Region.ready md ops listed = [] → Q s) ∧ ∀ i ∈ Region.ready md ops listed, ∀ r, rs[i]? = some r → ∃ s', DS P pures T cx i r s s' ∧ anyD P pures T cx md ops rs Q fuel (listed.setIfInBounds i true) s'

/-- The steps in the order of the text. -/
def DSs (P : Program) (pures : Nat → Bool) (T : Nat → List Nat) (cx : Nat) : Nat → List LOpr → St → St → Prop
  | _, [], s, s' => s = s'
  | i, r :: rs, s, s' => ∃ s1, DS P pures T cx i r s s1 ∧ DSs P pures T cx (i + 1) rs s1 s'

/-- Apart by what is seen ahead, but for pairs of dyn. -/
def apartS (pures : Nat → Bool) (dyn : List (Nat × Nat)) (i : Nat) (x : LOpr) (j : Nat) (y : LOpr) : Bool :=
  slotsApart x y && (Cls.ok (x.op.cls pures) (y.op.cls pures) || (decide (x.op.cls pures = .W) && decide (y.op.cls pures = .L) && dyn.contains (i, j)) || (decide (x.op.cls pures = .L) && decide (y.op.cls pures = .W) && dyn.contains (j, i)))

theorem apartS_ap {pures : Nat → Bool} {dyn : List (Nat × Nat)} {T : Nat → List Nat} (hd : ∀ p ∈ dyn, disj (T p.1) (T p.2) = true) {i j : Nat} {x y : LOpr} (h : apartS pures dyn i x j y = true) : Ap pures T i x j y := by
  simp only [apartS, Bool.and_eq_true, Bool.or_eq_true, decide_eq_true_eq, List.contains_iff_mem] at h
  refine ⟨h.1, ?_⟩
  rcases h.2 with (h2 | h2) | h2
  · exact .inl h2
  · exact .inr (.inl ⟨h2.1.1, h2.1.2, hd _ h2.2⟩)
  · exact .inr (.inr ⟨h2.1.1, h2.1.2, hd _ h2.2⟩)

/-- Those that wait for k, through however many others. -/
def marks (md : Region.Mode) (ops : Array Oper) (k : Nat) : Array Bool :=
  (List.range ops.size).foldl (fun m j => match ops[j]? with
    | some o => if o.after.any (fun e => Region.binds md e && (e.on == k || m.getD e.on false)) then m.setIfInBounds j true else m
    | none => m) (Array.replicate ops.size false)

def freeL (pures : Nat → Bool) (dyn : List (Nat × Nat)) (md : Region.Mode) (ops : Array Oper) (rs : List LOpr) (listed : Array Bool) (k : Nat) (x : LOpr) (mk : Array Bool) : Bool :=
  (List.range ops.size).all fun j => match mk.getD j false with
    | true => !(listed.getD j true) && (match ops[j]? with | some o => o.after.any (fun e => Region.binds md e && (e.on == k || mk.getD e.on false)) | none => false)
    | false => j == k || listed.getD j true || (match rs[j]? with | some y => apartS pures dyn k x j y | none => false)

def lexL (pures : Nat → Bool) (dyn : List (Nat × Nat)) (md : Region.Mode) (ops : Array Oper) (rs : List LOpr) : List LOpr → Nat → Array Bool → Bool
  | [], _, listed => (Region.ready md ops listed).isEmpty
  | x :: l, k, listed => (Region.ready md ops listed).contains k && freeL pures dyn md ops rs listed k x (marks md ops k) && lexL pures dyn md ops rs l (k + 1) (listed.setIfInBounds k true)

def drawOk (pures : Nat → Bool) (dyn : List (Nat × Nat)) (ops : Array Oper) (rs : List LOpr) : Bool :=
  rs.length == ops.size && lexL pures dyn .any ops rs rs 0 (Array.replicate ops.size false)

section
variable {P : Program} {pures : Nat → Bool} {T : Nat → List Nat} {cx : Nat} {md : Region.Mode} {ops : Array Oper} {rs : List LOpr} {Q : St → Prop} {dyn : List (Nat × Nat)}

theorem freeL_spec (hd : ∀ p ∈ dyn, disj (T p.1) (T p.2) = true) {listed : Array Bool} {k : Nat} {x : LOpr} {mk : Array Bool} (h : freeL pures dyn md ops rs listed k x mk = true) :
    (∀ (j : Nat) oj y, ops[j]? = some oj → rs[j]? = some y → j ≠ k → listed.getD j true = false → mk.getD j false = false → Ap pures T k x j y) ∧
    (∀ (j : Nat) oj, ops[j]? = some oj → mk.getD j false = true → listed.getD j true = false ∧ ∃ e ∈ oj.after, Region.binds md e = true ∧ (e.on = k ∨ mk.getD e.on false = true)) := by
  refine ⟨fun j oj y hj hy hjk hl hm => ?_, fun j oj hj hm => ?_⟩ <;>
    have hlt : j < ops.size := (Array.getElem?_eq_some_iff.1 hj).1 <;>
    have := List.all_eq_true.1 h j (List.mem_range.2 hlt)
  · simp only [hm, hy, hl, Bool.or_eq_true, beq_iff_eq, Bool.false_eq_true, or_false] at this
    rcases this with h1 | h1
    · exact absurd h1 hjk
    · exact apartS_ap hd h1
  · simp only [hm, hj, Bool.and_eq_true, Bool.not_eq_true', Array.any_eq_true', Bool.or_eq_true, beq_iff_eq] at this
    obtain ⟨h1, e, m1, m2, m3⟩ := this
    exact ⟨h1, e, m1, m2, m3⟩

theorem anyD_first {i : Nat} {x : LOpr} (hi : rs[i]? = some x) {mk : Array Bool} (hmk : ∀ (j : Nat) oj, ops[j]? = some oj → mk.getD j false = true → ∃ e ∈ oj.after, Region.binds md e = true ∧ (e.on = i ∨ mk.getD e.on false = true)) :
    ∀ (fuel : Nat) (listed : Array Bool) (s s1 : St),
      (∀ (j : Nat) oj y, ops[j]? = some oj → rs[j]? = some y → j ≠ i → listed.getD j true = false → mk.getD j false = false → Ap pures T i x j y) →
      (∀ (j : Nat) oj, ops[j]? = some oj → mk.getD j false = true → listed.getD j true = false) → listed.size ≤ ops.size →
      i ∈ Region.ready md ops listed → DS P pures T cx i x s s1 →
      anyD P pures T cx md ops rs Q fuel (listed.setIfInBounds i true) s1 → anyD P pures T cx md ops rs Q (fuel + 1) listed s := by
  intro fuel
  induction fuel with
  | zero =>
    intro listed s s1 _ _ _ hr hy H
    refine ⟨fun h => (by rw [h] at hr; cases hr), fun j hj r hrj => ?_⟩
    by_cases hji : j = i
    · subst hji
      rw [hi] at hrj; cases hrj
      exact ⟨s1, hy, H⟩
    · have := ready_mono hj hji
      rw [H.1] at this
      cases this
  | succ fuel ih =>
    intro listed s s1 hfree hinv hsz hr hy H
    refine ⟨fun h => (by rw [h] at hr; cases hr), fun j hj r hrj => ?_⟩
    by_cases hji : j = i
    · subst hji
      rw [hi] at hrj; cases hrj
      exact ⟨s1, hy, H⟩
    · obtain ⟨s2, k1, k2⟩ := H.2 j (ready_mono hj hji) r hrj
      obtain ⟨hjun, oj, hoj, hall⟩ := mem_ready.1 hj
      have hlist : ∀ q, listed.getD q false = true → listed.getD q true = true ∧ q < listed.size := fun q hq => by
        rcases Nat.lt_or_ge q listed.size with h' | h'
        · simp [h'] at hq ⊢; exact hq
        · simp [Array.getElem?_eq_none h'] at hq
      have hmj : mk.getD j false = false := by
        cases hm : mk.getD j false with
        | false => rfl
        | true =>
          obtain ⟨e, m1, m2, m3⟩ := hmk j oj hoj hm
          have h1 := hlist _ (hall e m1 m2)
          rcases m3 with m3 | m3
          · rw [m3, (mem_ready.1 hr).1] at h1; cases h1.1
          · have hlt : e.on < ops.size := Nat.lt_of_lt_of_le h1.2 hsz
            rw [hinv _ _ (Array.getElem?_eq_getElem hlt) m3] at h1; cases h1.1
      have hap := hfree j oj r hoj hrj hji hjun hmj
      obtain ⟨s1', j1, j2⟩ := swap (Ne.symm hji) hy k1 hap
      refine ⟨s1', j1, ih (listed.setIfInBounds j true) s1' s2 (fun k ok y hk hy hki hun hm => ?_) (fun k ok hk hm => ?_) (by simpa using hsz) (ready_mono hr (Ne.symm hji)) j2 ?_⟩
      · refine hfree k ok y hk hy hki ?_ hm
        by_cases hjk : j = k
        · subst hjk; exact hjun
        · rw [getD_set_ne true hjk] at hun; exact hun
      · have : j ≠ k := fun e => by subst e; rw [hmj] at hm; cases hm
        rw [getD_set_ne true this]; exact hinv k ok hk hm
      · rw [Array.setIfInBounds_comm _ _ hji]
        exact k2

theorem anyD_lex (hd : ∀ p ∈ dyn, disj (T p.1) (T p.2) = true) : ∀ (l : List LOpr) (k : Nat) (listed : Array Bool) (s s' : St), (∀ j, l[j]? = rs[k + j]?) → listed.size ≤ ops.size →
    lexL pures dyn md ops rs l k listed = true → DSs P pures T cx k l s s' → Q s' → anyD P pures T cx md ops rs Q l.length listed s
  | [], _, _, s, s', _, _, hB, h, hQ => by cases h; exact ⟨by simpa [lexL] using hB, hQ⟩
  | x :: l, k, listed, s, s', hl, hsz, hB, h, hQ => by
    have h0 : rs[k]? = some x := by simpa using (hl 0).symm
    simp only [lexL, Bool.and_eq_true] at hB
    obtain ⟨⟨hr, hf⟩, hB'⟩ := hB
    obtain ⟨s1, h1, h2⟩ := h
    obtain ⟨f1, f2⟩ := freeL_spec hd hf
    exact anyD_first h0 (fun j oj hj hm => (f2 j oj hj hm).2) l.length listed s s1 f1 (fun j oj hj hm => (f2 j oj hj hm).1) hsz (by simpa using hr) h1
      (anyD_lex hd l (k + 1) _ _ s' (fun j => by have := hl (j + 1); simpa [Nat.add_assoc, Nat.add_comm 1 j] using this) (by simpa using hsz) hB' h2 hQ)
end

end Go.Proofs.YtfhflogbffibiaaGreat

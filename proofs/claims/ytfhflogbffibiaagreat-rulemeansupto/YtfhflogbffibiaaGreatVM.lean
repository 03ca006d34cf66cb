/-
  Maps from numbers, made for the kernel: tries.
-/
namespace Go.Proofs.YtfhflogbffibiaaGreat
set_option linter.unusedSimpArgs false
set_option linter.unusedVariables false

inductive Map (α : Type) where
  | leaf
  | node (l : Map α) (v : Option α) (r : Map α)

variable {α : Type}

def Map.get : Map α → Nat → Option α
  | .leaf, _ => none
  | .node l v r, k => cond (Nat.beq k 0) v (cond (Nat.beq (k % 2) 1) (l.get (k / 2)) (r.get (k / 2 - 1)))

def Map.single : Nat → Nat → α → Map α
  | 0, _, a => .node .leaf (some a) .leaf
  | n + 1, k, a => cond (Nat.beq k 0) (.node .leaf (some a) .leaf) (cond (Nat.beq (k % 2) 1) (.node (single n (k / 2) a) none .leaf) (.node .leaf none (single n (k / 2 - 1) a)))

def Map.set : Map α → Nat → α → Map α
  | .leaf, k, a => single k k a
  | .node l v r, k, a => cond (Nat.beq k 0) (.node l (some a) r) (cond (Nat.beq (k % 2) 1) (.node (l.set (k / 2) a) v r) (.node l v (r.set (k / 2 - 1) a)))

theorem Map.get_single : ∀ (n k : Nat) (a : α) (j : Nat), k ≤ n → (Map.single n k a).get j = if j = k then some a else none
  | 0, k, a, j, h => by
    have : k = 0 := by omega
    subst this
    cases j with
    | zero => simp [single, get, Nat.beq]
    | succ j =>
      have hb : Nat.beq (j + 1) 0 = false := rfl
      simp only [single, get, hb, cond_false]
      rw [if_neg (by omega)]
      cases Nat.beq ((j + 1) % 2) 1 <;> rfl
  | n + 1, k, a, j, h => by
    have hbeq : ∀ x y : Nat, Nat.beq x y = decide (x = y) := fun x y => by
      cases hxy : Nat.beq x y with
      | true => simp [Nat.eq_of_beq_eq_true hxy]
      | false => simp [Nat.ne_of_beq_eq_false hxy]
    simp only [single, hbeq]
    by_cases hk : k = 0
    · subst hk
      simp only [decide_true, cond_true, get, hbeq]
      by_cases hj : j = 0
      · simp [hj]
      · simp only [hj, decide_false, cond_false, if_false]
        cases decide (j % 2 = 1) <;> rfl
    · simp only [hk, decide_false, cond_false]
      by_cases hk2 : k % 2 = 1
      · simp only [hk2, decide_true, cond_true, get, hbeq]
        by_cases hj : j = 0
        · simp only [hj, decide_true, cond_true]; rw [if_neg (by omega)]
        · simp only [hj, decide_false, cond_false]
          by_cases hj2 : j % 2 = 1
          · simp only [hj2, decide_true, cond_true]
            rw [get_single n (k / 2) a (j / 2) (by omega)]
            by_cases e : j = k
            · subst e; simp
            · rw [if_neg (by omega), if_neg e]
          · simp only [hj2, decide_false, cond_false, get]
            rw [if_neg (by omega)]
      · simp only [hk2, decide_false, cond_false, get, hbeq]
        by_cases hj : j = 0
        · simp only [hj, decide_true, cond_true]; rw [if_neg (by omega)]
        · simp only [hj, decide_false, cond_false]
          by_cases hj2 : j % 2 = 1
          · simp only [hj2, decide_true, cond_true, get]
            rw [if_neg (by omega)]
          · simp only [hj2, decide_false, cond_false]
            rw [get_single n (k / 2 - 1) a (j / 2 - 1) (by omega)]
            by_cases e : j = k
            · subst e; simp
            · rw [if_neg (by omega), if_neg e]

theorem Map.get_set : ∀ (m : Map α) (k : Nat) (a : α) (j : Nat), (m.set k a).get j = if j = k then some a else m.get j
  | .leaf, k, a, j => by simp only [set, get]; exact get_single k k a j (Nat.le_refl _)
  | .node l v r, k, a, j => by
    have hbeq : ∀ x y : Nat, Nat.beq x y = decide (x = y) := fun x y => by
      cases hxy : Nat.beq x y with
      | true => simp [Nat.eq_of_beq_eq_true hxy]
      | false => simp [Nat.ne_of_beq_eq_false hxy]
    simp only [set, hbeq]
    by_cases hk : k = 0
    · subst hk
      simp only [decide_true, cond_true, get, hbeq]
      by_cases hj : j = 0
      · simp [hj]
      · simp [hj]
    · simp only [hk, decide_false, cond_false]
      by_cases hk2 : k % 2 = 1
      · simp only [hk2, decide_true, cond_true, get, hbeq]
        by_cases hj : j = 0
        · simp only [hj, decide_true, cond_true]; rw [if_neg (by omega)]
        · simp only [hj, decide_false, cond_false]
          by_cases hj2 : j % 2 = 1
          · simp only [hj2, decide_true, cond_true]
            rw [get_set l (k / 2) a (j / 2)]
            by_cases e : j = k
            · subst e; simp
            · rw [if_neg (by omega), if_neg e]
          · simp only [hj2, decide_false, cond_false]
            rw [if_neg (by omega)]
      · simp only [hk2, decide_false, cond_false, get, hbeq]
        by_cases hj : j = 0
        · simp only [hj, decide_true, cond_true]; rw [if_neg (by omega)]
        · simp only [hj, decide_false, cond_false]
          by_cases hj2 : j % 2 = 1
          · simp only [hj2, decide_true, cond_true]
            rw [if_neg (by omega)]
          · simp only [hj2, decide_false, cond_false]
            rw [get_set r (k / 2 - 1) a (j / 2 - 1)]
            by_cases e : j = k
            · subst e; simp
            · rw [if_neg (by omega), if_neg e]

end Go.Proofs.YtfhflogbffibiaaGreat

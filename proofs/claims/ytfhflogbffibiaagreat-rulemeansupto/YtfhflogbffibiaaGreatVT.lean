/-
  What an operation reads and writes; two operations change places.
-/
import Derived.Test.YtfhflogbffibiaaGreatVS
namespace Go.Proofs.YtfhflogbffibiaaGreat
open Go
set_option linter.unusedSimpArgs false
set_option linter.unusedVariables false

def LA.slots : LA → List Nat
  | .t n => [n]
  | .k _ => []

def LA.slotsO : Option LA → List Nat
  | some x => x.slots
  | none => []

def LOp.slots : LOp → List Nat
  | .mv x | .box x | .ld x _ _ | .nck x | .un _ x | .conv _ x | .fa x _ | .ext x _ | .len x _ | .cap x | .isnil x | .clr _ x => x.slots
  | .pick c a b => c.slots ++ (a.slots ++ b.slots)
  | .alloc _ => []
  | .build _ ps => ps.flatMap (·.2.2.slots)
  | .mks _ ps => ps.flatMap (·.slots)
  | .mkz _ _ x y | .st x y _ | .bin _ x y _ | .ix _ x y | .app _ _ x y | .appz _ _ _ x y | .six x y => x.slots ++ y.slots
  | .mkf _ cs => cs.flatMap (·.slots)
  | .slc _ x lo hi mx => x.slots ++ (LA.slotsO lo ++ (LA.slotsO hi ++ LA.slotsO mx))
  | .mm _ x xs => x.slots ++ xs.flatMap (·.slots)
  | .call _ args | .pcall _ args | .kcall _ args => args.flatMap (·.slots)
  | .callv x args => x.slots ++ args.flatMap (·.slots)
  | .bad => []

def LOpr.rd (r : LOpr) : List Nat := r.op.slots ++ (match r.g with | some (t, _) => [t] | none => [])

section
variable {fr fr' : Nat → AV} {H H' : Heap}

theorem ev_congr {x : LA} (h : ∀ t ∈ x.slots, fr t = fr' t) : x.ev fr = x.ev fr' := by
  cases x with
  | t n => exact h n (by simp [LA.slots])
  | k a => rfl

theorem fillV_congr : ∀ {ps : List (Nat × Nat × LA)} {cs : List AV}, (∀ t ∈ ps.flatMap (·.2.2.slots), fr t = fr' t) → fillV fr cs ps = fillV fr' cs ps
  | [], _, _ => rfl
  | (o, n, x) :: r, cs, h => by
    have hx : x.ev fr = x.ev fr' := ev_congr fun t ht => h t (by simp [ht])
    simp only [fillV, hx]
    congr 1; funext vs
    split
    · exact fillV_congr fun t ht => h t (by simp only [List.flatMap_cons, List.mem_append]; exact .inr ht)
    · rfl

theorem partsV_congr {E : Nat} : ∀ {ps : List LA}, (∀ t ∈ ps.flatMap (·.slots), fr t = fr' t) → partsV fr E ps = partsV fr' E ps
  | [], _ => rfl
  | x :: r, h => by
    have hx : x.ev fr = x.ev fr' := ev_congr fun t ht => h t (by simp [ht])
    have hr : partsV fr E r = partsV fr' E r := partsV_congr fun t ht => h t (by simp only [List.flatMap_cons, List.mem_append]; exact .inr ht)
    simp only [partsV, hx, hr]

theorem evs_congr : ∀ {ps : List LA}, (∀ t ∈ ps.flatMap (·.slots), fr t = fr' t) → evs fr ps = evs fr' ps
  | [], _ => rfl
  | x :: r, h => by
    have hx : x.ev fr = x.ev fr' := ev_congr fun t ht => h t (by simp [ht])
    have hr : evs fr r = evs fr' r := evs_congr fun t ht => h t (by simp only [List.flatMap_cons, List.mem_append]; exact .inr ht)
    simp only [evs, List.map_cons] at hr ⊢
    rw [hx, hr]

theorem bndV_congr {x : Option LA} {d : Int} (h : ∀ t ∈ LA.slotsO x, fr t = fr' t) : bndV fr x d = bndV fr' x d := by
  cases x with
  | none => rfl
  | some x => simp only [bndV]; rw [ev_congr (x := x) fun t ht => h t ht]

theorem sliceV_congr {E : Nat} {x : AV} {lo hi mx : Option LA} (h1 : ∀ t ∈ LA.slotsO lo, fr t = fr' t) (h2 : ∀ t ∈ LA.slotsO hi, fr t = fr' t) (h3 : ∀ t ∈ LA.slotsO mx, fr t = fr' t) : sliceV fr H E x lo hi mx = sliceV fr' H E x lo hi mx := by
  have e3 : (mx.map fun m => bndV fr (some m) 0) = (mx.map fun m => bndV fr' (some m) 0) := by
    cases mx with
    | none => rfl
    | some m => simp only [Option.map_some]; rw [bndV_congr (x := some m) h3]
  unfold sliceV
  simp only [bndV_congr h1, bndV_congr h2, bndV_congr h3, e3]

theorem run_congr {nm : Nat} {op : LOp} (h : ∀ t ∈ op.slots, fr t = fr' t) : op.run nm fr H = op.run nm fr' H := by
  have ee : ∀ {x : LA}, (∀ t ∈ x.slots, t ∈ op.slots) → x.ev fr = x.ev fr' := fun hx => ev_congr fun t ht => h t (hx t ht)
  cases op with
  | pick c a b => simp only [LOp.run]; rw [ee (x := c), ee (x := a), ee (x := b)] <;> intro t ht <;> simp [LOp.slots, ht]
  | alloc zs => rfl
  | build zs ps => simp only [LOp.run]; rw [fillV_congr h]
  | mks E ps => simp only [LOp.run]; rw [partsV_congr h]
  | mkf f cs => simp only [LOp.run]; rw [show cs.map (·.ev fr) = cs.map (·.ev fr') from evs_congr (ps := cs) h]
  | slc E x lo hi mx =>
    simp only [LOp.run]
    rw [ee (x := x) (by intro t ht; simp [LOp.slots, ht])]
    rw [sliceV_congr (lo := lo) (hi := hi) (mx := mx) (fun t ht => h t (by simp [LOp.slots, ht])) (fun t ht => h t (by simp [LOp.slots, ht])) (fun t ht => h t (by simp [LOp.slots, ht]))]
  | mm mx x xs =>
    simp only [LOp.run]
    rw [ee (x := x) (by intro t ht; simp [LOp.slots, ht]), show xs.map (·.ev fr) = xs.map (·.ev fr') from evs_congr (ps := xs) fun t ht => h t (by simp only [LOp.slots, List.mem_append]; exact .inr ht)]
  | call f args => rfl
  | pcall f args => rfl
  | kcall f args => rfl
  | callv x args => rfl
  | bad => rfl
  | mv x => simp only [LOp.run]; rw [ee (x := x)]; intro t ht; exact ht
  | box x => simp only [LOp.run]; rw [ee (x := x)]; intro t ht; exact ht
  | ld x m ag => simp only [LOp.run]; rw [ee (x := x)]; intro t ht; exact ht
  | nck x => simp only [LOp.run]; rw [ee (x := x)]; intro t ht; exact ht
  | un o x => simp only [LOp.run]; rw [ee (x := x)]; intro t ht; exact ht
  | conv k x => simp only [LOp.run]; rw [ee (x := x)]; intro t ht; exact ht
  | fa x o => simp only [LOp.run]; rw [ee (x := x)]; intro t ht; exact ht
  | ext x i => simp only [LOp.run]; rw [ee (x := x)]; intro t ht; exact ht
  | len x ks => simp only [LOp.run]; rw [ee (x := x)]; intro t ht; exact ht
  | cap x => simp only [LOp.run]; rw [ee (x := x)]; intro t ht; exact ht
  | isnil x => simp only [LOp.run]; rw [ee (x := x)]; intro t ht; exact ht
  | clr zs x => simp only [LOp.run]; rw [ee (x := x)]; intro t ht; exact ht
  | mkz E zs x y => simp only [LOp.run]; rw [ee (x := x), ee (x := y)] <;> intro t ht <;> simp [LOp.slots, ht]
  | st x y m => simp only [LOp.run]; rw [ee (x := x), ee (x := y)] <;> intro t ht <;> simp [LOp.slots, ht]
  | bin o x y m => simp only [LOp.run]; rw [ee (x := x), ee (x := y)] <;> intro t ht <;> simp [LOp.slots, ht]
  | ix E x y => simp only [LOp.run]; rw [ee (x := x), ee (x := y)] <;> intro t ht <;> simp [LOp.slots, ht]
  | app E b x y => simp only [LOp.run]; rw [ee (x := x), ee (x := y)] <;> intro t ht <;> simp [LOp.slots, ht]
  | appz E b zs x y => simp only [LOp.run]; rw [ee (x := x), ee (x := y)] <;> intro t ht <;> simp [LOp.slots, ht]
  | six x y => simp only [LOp.run]; rw [ee (x := x), ee (x := y)] <;> intro t ht <;> simp [LOp.slots, ht]

/-! ### Names at hand -/

def AV.tops : AV → List Nat
  | .np nm _ => [nm]
  | .ns nm _ _ _ _ => [nm]
  | .gs nm _ _ _ => [nm]
  | _ => []

/-- V: apart from the heap; L: reads it; A: makes a new object; C: a call of the whole heap that writes nothing old; W: writes; X: any call. -/
inductive Cls where
  | V | L | A | C | W | X
  deriving DecidableEq

def LOp.cls (_ : Nat → Bool) : LOp → Cls
  | .ld _ _ _ | .slc _ _ _ _ _ => .L
  | .alloc _ | .box _ | .mkz _ _ _ _ => .A
  | .st _ _ _ | .app _ _ _ _ | .appz _ _ _ _ _ | .clr _ _ => .W
  | .kcall _ _ => .C
  | .call _ _ => .X
  | .callv _ _ => .X
  | _ => .V

/-- The names that it reads (L), that it may write (W). -/
def LOp.tops (nm : Nat) (fr : Nat → AV) : LOp → List Nat
  | .ld x _ _ => (x.ev fr).tops
  | .slc _ x _ _ _ => match x.ev fr with
    | .gs nm _ _ _ => [nm]
    | _ => []
  | .st x _ _ | .clr _ x => (x.ev fr).tops
  | .app _ _ x _ | .appz _ _ _ x _ => nm :: (x.ev fr).tops
  | _ => []

theorem tops_congr {nm : Nat} {op : LOp} (h : ∀ t ∈ op.slots, fr t = fr' t) : op.tops nm fr = op.tops nm fr' := by
  have ee : ∀ {x : LA}, (∀ t ∈ x.slots, t ∈ op.slots) → x.ev fr = x.ev fr' := fun hx => ev_congr fun t ht => h t (hx t ht)
  cases op <;> simp only [LOp.tops]
  case ld x m ag => rw [ee (x := x)]; intro t ht; exact ht
  case slc E x lo hi mx => rw [ee (x := x)]; intro t ht; simp [LOp.slots, ht]
  case st x y m => rw [ee (x := x)]; intro t ht; simp [LOp.slots, ht]
  case clr zs x => rw [ee (x := x)]; intro t ht; exact ht
  case app E b x y => rw [ee (x := x)]; intro t ht; simp [LOp.slots, ht]
  case appz E b zs x y => rw [ee (x := x)]; intro t ht; simp [LOp.slots, ht]

theorem run_V {pures : Nat → Bool} {nm : Nat} {op : LOp} (hc : op.cls pures = .V) {av : AV} {ws : List (Nat × HO)} (h : op.run nm fr H = some (av, ws)) : ws = [] ∧ ∀ H', op.run nm fr H' = some (av, ws) := by
  have M : ∀ {α : Type} {f : Option α} {r : α × List (Nat × HO)}, f.map (fun x => (x, ([] : List (Nat × HO)))) = some r → r.2 = [] := fun {α f r} h => by
    cases f with
    | none => cases h
    | some v => simp only [Option.map_some, Option.some.injEq] at h; rw [← h]
  cases op <;> simp only [LOp.cls, reduceCtorEq] at hc <;> try (split at hc <;> cases hc) <;> try (cases h; done)
  all_goals refine ⟨?_, fun H' => by rw [← h]; rfl⟩
  all_goals simp only [LOp.run] at h
  all_goals first
    | (simp only [Option.some.injEq, Prod.mk.injEq] at h; exact h.2.symm)
    | exact M h
    | (split at h <;> first | (simp only [Option.some.injEq, Prod.mk.injEq] at h; exact h.2.symm) | exact M h | (cases h; done) | (split at h <;> first | (simp only [Option.some.injEq, Prod.mk.injEq] at h; exact h.2.symm) | (cases h; done)))
    | (obtain ⟨_, _, h⟩ := Option.map_eq_some_iff.1 h; cases h; rfl)
    | cases h

theorem cellsAt_congr {nm : Nat} (h : H' nm = H nm) : cellsAt H' nm = cellsAt H nm := by simp [cellsAt, h]

theorem run_L {nm : Nat} {op : LOp} (hc : (∃ x m ag, op = .ld x m ag) ∨ ∃ E x lo hi mx, op = .slc E x lo hi mx) {av : AV} {ws : List (Nat × HO)} (h : op.run nm fr H = some (av, ws)) : ws = [] ∧ ∀ H', (∀ q ∈ op.tops nm fr, H' q = H q) → op.run nm fr H' = some (av, ws) := by
  have M : ∀ {f : Option AV}, f.map (fun x => (x, ([] : List (Nat × HO)))) = some (av, ws) → ws = [] := fun {f} h => by
    cases f with
    | none => cases h
    | some v => simp only [Option.map_some, Option.some.injEq, Prod.mk.injEq] at h; exact h.2.symm
  rcases hc with ⟨x, m, ag, rfl⟩ | ⟨E, x, lo, hi, mx, rfl⟩
  · refine ⟨M h, fun H' hH => ?_⟩
    rw [← h]
    simp only [LOp.run]
    congr 1
    simp only [LOp.tops] at hH
    unfold ldV
    split
    · rfl
    · rename_i q o hx
      rw [hx] at hH
      rw [cellsAt_congr (hH q (by simp [AV.tops]))]
    · rfl
  · refine ⟨M h, fun H' hH => ?_⟩
    rw [← h]
    simp only [LOp.run]
    congr 1
    simp only [LOp.tops] at hH
    unfold sliceV
    split
    · rfl
    · rfl
    · rename_i q E' off len hx
      rw [hx] at hH
      rw [hH q (by simp)]
    · rfl

/-- What is written bears the new name, or a name that there was. -/
theorem ifNew_ws {nm : Nat} {o : HO} {v av : AV} {ws : List (Nat × HO)} (h : ifNew H nm o v = some (av, ws)) : H nm = none ∧ av = v ∧ ws = [(nm, o)] ∧ ∀ H', H' nm = none → ifNew H' nm o v = some (av, ws) := by
  unfold ifNew at h
  split at h
  · rename_i hn
    cases h
    exact ⟨hn, rfl, rfl, fun H' h' => by simp [ifNew, h']⟩
  · cases h

theorem run_A {nm : Nat} {op : LOp} (hc : (∃ zs, op = .alloc zs) ∨ (∃ x, op = .box x) ∨ ∃ E zs x y, op = .mkz E zs x y) {av : AV} {ws : List (Nat × HO)} (h : op.run nm fr H = some (av, ws)) :
    (∀ p ∈ ws, p.1 = nm) ∧ ∀ H', H' nm = H nm → op.run nm fr H' = some (av, ws) := by
  have K : ∀ {o : HO} {v : AV}, ifNew H nm o v = some (av, ws) → (∀ p ∈ ws, p.1 = nm) ∧ ∀ H', H' nm = H nm → ifNew H' nm o v = some (av, ws) := fun {o v} h => by
    obtain ⟨h1, h2, h3, h4⟩ := ifNew_ws h
    exact ⟨fun p hp => by rw [h3] at hp; simp at hp; rw [hp], fun H' h' => h4 H' (by rw [h', h1])⟩
  rcases hc with ⟨zs, rfl⟩ | ⟨x, rfl⟩ | ⟨E, zs, x, y, rfl⟩
  · exact K h
  · simp only [LOp.run] at h ⊢
    cases hv : (x.ev fr).cells with
    | none => rw [hv] at h; cases h
    | some cs => rw [hv] at h; simp only [Option.bind_some] at h ⊢; exact K h
  · simp only [LOp.run] at h ⊢
    split at h
    · rename_i hx hy
      split at h
      · rename_i hcond
        obtain ⟨h1, h2⟩ := K h
        exact ⟨h1, fun H' h' => (by rw [if_pos hcond]; exact h2 H' h')⟩
      · split at h
        · rename_i hc1 hc2
          cases h
          exact ⟨fun p hp => (by cases hp), fun H' _ => (by rw [if_neg hc1, if_pos hc2])⟩
        · cases h
    · cases h

theorem app0_ws {E : Nat} {x av : AV} {ws : List (Nat × HO)} (h : app0 E x = some (av, ws)) : ws = [] := by
  unfold app0 at h
  split at h
  · split at h <;> cases h; rfl
  · split at h <;> cases h; rfl
  · cases h; rfl
  · cases h

theorem appC_ws {nm E bytes : Nat} {x av : AV} {ys : List (List AV)} {ws : List (Nat × HO)} (h : appC H nm E bytes x ys = some (av, ws)) : ∀ p ∈ ws, (p.1 = nm ∧ H nm = none) ∨ (p.1 ∈ x.tops ∧ H p.1 ≠ none) := by
  unfold appC at h
  split at h
  · split at h
    · obtain ⟨h1, _, h3, _⟩ := ifNew_ws h
      intro p hp; rw [h3] at hp; simp at hp; subst hp; exact .inl ⟨rfl, h1⟩
    · cases h
  · split at h
    · rename_i ob hob
      split at h
      · split at h
        · cases h
          intro p hp; simp at hp; subst hp; exact .inr ⟨by simp [AV.tops], by simp [hob]⟩
        · split at h
          · obtain ⟨h1, _, h3, _⟩ := ifNew_ws h
            intro p hp; rw [h3] at hp; simp at hp; subst hp; exact .inl ⟨rfl, h1⟩
          · cases h
      · cases h
    · cases h
  · split at h
    · rename_i E'' xs hob
      split at h
      · cases h
        intro p hp; simp at hp; subst hp; exact .inr ⟨by simp [AV.tops], by simp [hob]⟩
      · split at h
        · split at h
          · rename_i hn
            cases h
            intro p hp
            simp at hp
            rcases hp with rfl | rfl
            · exact .inl ⟨rfl, hn⟩
            · exact .inr ⟨by simp [AV.tops], by simp [hob]⟩
          · cases h
        · cases h
    · cases h
  · cases h

theorem appV_ws {nm E bytes : Nat} {x av : AV} {yy : Option (List (List AV))} {ws : List (Nat × HO)} (h : appV H nm E bytes x yy = some (av, ws)) : ∀ p ∈ ws, (p.1 = nm ∧ H nm = none) ∨ (p.1 ∈ x.tops ∧ H p.1 ≠ none) := by
  unfold appV at h
  split at h
  · cases h
  · rw [app0_ws h]; intro p hp; cases hp
  · exact appC_ws h

/-- EVERY OPERATION's writes. -/
theorem run_ws {nm : Nat} {op : LOp} {av : AV} {ws : List (Nat × HO)} (h : op.run nm fr H = some (av, ws)) : ∀ p ∈ ws, (p.1 = nm ∧ H nm = none) ∨ (p.1 ∈ op.tops nm fr ∧ H p.1 ≠ none) := by
  by_cases hV : op.cls (fun _ => true) = .V
  · rw [(run_V hV h).1]; intro p hp; cases hp
  cases op <;> simp [LOp.cls] at hV
  case ld x m ag => rw [(run_L (.inl ⟨x, m, ag, rfl⟩) h).1]; intro p hp; cases hp
  case slc E x lo hi mx => rw [(run_L (.inr ⟨E, x, lo, hi, mx, rfl⟩) h).1]; intro p hp; cases hp
  case alloc zs =>
    obtain ⟨h1, _, h3, _⟩ := ifNew_ws h
    intro p hp; rw [h3] at hp; simp at hp; subst hp; exact .inl ⟨rfl, h1⟩
  case box x =>
    simp only [LOp.run] at h
    cases hv : (x.ev fr).cells with
    | none => rw [hv] at h; cases h
    | some cs =>
      rw [hv] at h
      obtain ⟨h1, _, h3, _⟩ := ifNew_ws h
      intro p hp; rw [h3] at hp; simp at hp; subst hp; exact .inl ⟨rfl, h1⟩
  case mkz E zs x y =>
    simp only [LOp.run] at h
    split at h
    · split at h
      · obtain ⟨h1, _, h3, _⟩ := ifNew_ws h
        intro p hp; rw [h3] at hp; simp at hp; subst hp; exact .inl ⟨rfl, h1⟩
      · split at h
        · cases h; intro p hp; cases hp
        · cases h
    · cases h
  case st x v m =>
    simp only [LOp.run] at h
    split at h
    · rename_i q o vs hx hv
      split at h
      · rename_i ob hob
        split at h
        · split at h
          · cases h
            intro p hp; simp at hp; subst hp
            exact .inr ⟨by simp [LOp.tops, hx, AV.tops], by simp [hob]⟩
          · cases h
        · cases h
      · cases h
    · cases h
  case app E bytes x y =>
    intro p hp
    rcases appV_ws h p hp with h' | h'
    · exact .inl h'
    · exact .inr ⟨by simp [LOp.tops, h'.1], h'.2⟩
  case appz E bytes zs x y =>
    simp only [LOp.run] at h
    split at h
    · split at h
      · intro p hp
        rcases appV_ws h p hp with h' | h'
        · exact .inl h'
        · exact .inr ⟨by simp [LOp.tops, h'.1], h'.2⟩
      · cases h
    · cases h
  case clr zs x =>
    simp only [LOp.run] at h
    split at h
    · cases h; intro p hp; cases hp
    · rename_i q E o ln cp hx
      split at h
      · rename_i ob hob
        split at h
        · split at h
          · cases h
            intro p hp; simp at hp; subst hp
            exact .inr ⟨by simp [LOp.tops, hx, AV.tops], by simp [hob]⟩
          · cases h
        · cases h
      · cases h
    · rename_i q E off ln hx
      split at h
      · rename_i E' xs hob
        split at h
        · cases h
          intro p hp; simp at hp; subst hp
          exact .inr ⟨by simp [LOp.tops, hx, AV.tops], by simp [hob]⟩
        · cases h
      · cases h
    · cases h
  case call f args => cases h
  case kcall f args => cases h
  case callv x args => cases h
end

end Go.Proofs.YtfhflogbffibiaaGreat

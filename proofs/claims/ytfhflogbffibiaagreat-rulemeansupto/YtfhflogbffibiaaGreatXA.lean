/-
  The entry: what a row's reading says of its arguments, as Lean's own data.
-/
import Derived.Test.YtfhflogbffibiaaGreatWD
import Derived.Test.YtfhflogbffibiaaGreatRows
import Derived.ChangeArms
import Derived.Carry
namespace Go.Proofs.YtfhflogbffibiaaGreat
open Go Go.ChangeShapes Go.WideShapes
set_option linter.unusedSimpArgs false
set_option linter.unusedVariables false

/-- All that lies in the world. -/
def roOf (w : World) : RO := { g := fun b o => w.cell? ⟨b, o, none⟩, nu := fun _ => none }
theorem roOf_base (w : World) : Base (roOf w) w := fun _ _ _ h => h

section
variable {H : Type} 

theorem bulk_pos (d : DataW H) : 1 ≤ Rows.uptoBulk d := by
  cases d with
  | lit l => cases l <;> simp [Rows.uptoBulk]
  | _ => simp [Rows.uptoBulk]

theorem bulk_len : ∀ (l : List (DataW H)), l.length ≤ Rows.uptoBulkAll l
  | [] => by simp
  | d :: r => by
    have := bulk_pos d
    have := bulk_len r
    simp only [Rows.uptoBulkAll, List.length_cons]
    omega

theorem bulk_mem : ∀ (l : List (DataW H)) (d : DataW H), d ∈ l → Rows.uptoBulk d ≤ Rows.uptoBulkAll l
  | [], _, h => by cases h
  | x :: r, d, h => by
    simp only [Rows.uptoBulkAll]
    rcases List.mem_cons.1 h with rfl | h
    · omega
    · have := bulk_mem r d h
      omega

variable (enc : TypeId × Value → H) (P : Program) (w : World)

/-- What reads at this type is such cells. -/
def Rd (t : TypeId) {α : Type} (f : α → List AV) (I : α → Prop) : Prop :=
  ∀ (n : Nat) (cs : List Value) (x : DataW H × List MemPlace), DataW.trod enc P w 0 (fun _ => true) true n t cs = some x → Rows.uptoBulk x.1 ≤ 1048576 → ∃ a, CellsRep (roOf w) (f a) cs ∧ I a

variable {enc P w}

theorem Rd.map {t : TypeId} {α β : Type} {f : α → List AV} {f' : β → List AV} {I : α → Prop} {I' : β → Prop} (h : Rd enc P w t f I) (g : α → β) (hf : ∀ a, f a = f' (g a)) (hI : ∀ a, I a → I' (g a)) : Rd enc P w t f' I' :=
  fun n cs x h1 h2 => by
    obtain ⟨a, c, i⟩ := h n cs x h1 h2
    exact ⟨g a, hf a ▸ c, hI a i⟩

theorem rd_int {t : TypeId} {k : IntKind} (ht : P.underlying t = some (.int k)) : Rd enc P w t (fun n : Int => [.int k n]) (fun n => (Lit.int k n).wf = true) := fun n cs x h _ => by
  obtain ⟨m, rfl, rfl, hw⟩ := DataW.trod_int ht h
  exact ⟨m, .one (.int k m) rfl, hw⟩

theorem rd_str {t : TypeId} (ht : P.underlying t = some .string) : Rd enc P w t (fun s : ByteArray => [.str s]) (fun _ => True) := fun n cs x h _ => by
  obtain ⟨s, rfl, rfl, -⟩ := DataW.trod_string ht h
  exact ⟨s, .one (.str s) rfl, trivial⟩

theorem cells_len {a : Addr} {n : Nat} {cs : List Value} (h : w.cells? 0 a n = some cs) : cs.length = n := by
  simp only [World.cells?, Nat.zero_le, if_true] at h
  simpa using mapM_some_length h

theorem cells_get {a : Addr} {n : Nat} {cs : List Value} (h : w.cells? 0 a n = some cs) {j : Nat} {v : Value} (hv : cs[j]? = some v) : w.cell? (a.add j) = some v := by
  simp only [World.cells?, Nat.zero_le, if_true] at h
  have hj : j < n := by
    have := cells_len (w := w) (a := a) (n := n) (cs := cs) (by simpa [World.cells?] using h)
    have := (List.getElem?_eq_some_iff.1 hv).1
    omega
  have := mapM_some_get h j j (by simp [hj])
  rw [this, hv]

theorem cell_plain {a : Addr} {v : Value} (h : w.cell? a = some v) : a = ⟨a.block, a.off, none⟩ := by
  have hs : a.spot = none := by
    cases hsp : a.spot with
    | none => rfl
    | some s =>
      simp only [World.cell?] at h
      split at h
      · simp [hsp] at h
      · cases h
  cases a
  simp_all

theorem add_add (a : Addr) (i j : Nat) (hs : a.spot = none) : (a.add i).add j = ⟨a.block, a.off + i + j, none⟩ := by
  cases a
  simp only [Addr.add] at *
  split <;> split <;> simp_all

theorem pick_list {α : Type} {p : Nat → α → Prop} : ∀ (n : Nat), (∀ i, i < n → ∃ a, p i a) → ∃ l : List α, l.length = n ∧ ∀ i a, l[i]? = some a → p i a
  | 0, _ => ⟨[], rfl, fun i a h => by simp at h⟩
  | n + 1, h => by
    obtain ⟨l, hl, hp⟩ := pick_list n (fun i hi => h i (by omega))
    obtain ⟨a, ha⟩ := h n (by omega)
    refine ⟨l ++ [a], by simp [hl], fun i b hb => ?_⟩
    rw [List.getElem?_append] at hb
    split at hb
    · exact hp i b hb
    · have hi : i < n + 1 := by
        have := (List.getElem?_eq_some_iff.1 hb).1
        simp at this
        omega
      have : i = n := by omega
      subst this
      simp [hl] at hb
      subst hb
      exact ha

theorem rd_slice {t e : TypeId} {α : Type} {f : α → List AV} {I : α → Prop} (E : Nat) (ht : P.underlying t = some (.slice e)) (hE : P.cellsOf e = E) (h0 : 0 < E) (hl : ∀ a, (f a).length = E) (h : Rd enc P w e f I) :
    Rd enc P w t (fun s : Sl α => [.ro E (s.l.map f) s.c]) (fun s => s.l.length ≤ 1048576 ∧ ∀ a ∈ s.l, I a) := fun n cs x hx hb => by
  rcases DataW.trod_slice ht hx with ⟨rfl, rfl⟩ | ⟨a, len, cap, elems, rest, m, rfl, rfl, rfl, -, hlc, -, rfl, hel, -, -⟩
  · exact ⟨⟨[], false⟩, .one (.ro0 E false none 0 (fun h => by cases h)) rfl, by simp, fun a h => by cases h⟩
  · simp only [Rows.uptoBulk] at hb
    have hlen := bulk_len (elems.map (·.1))
    simp only [List.length_map] at hlen
    have key : ∀ i, i < elems.length → ∃ x : α, (∃ cs, w.cells? 0 (a.add (i * E)) E = some cs ∧ CellsRep (roOf w) (f x) cs) ∧ I x := fun i hi => by
      have := hel i hi
      rw [hE, List.getElem?_eq_getElem hi, Option.bind_eq_some_iff] at this
      obtain ⟨cs, h1, h2⟩ := this
      have hm := bulk_mem (elems.map (·.1)) (elems[i].1) (List.mem_map.2 ⟨_, List.getElem_mem hi, rfl⟩)
      obtain ⟨x, hr, hi'⟩ := h m cs _ h2 (by omega)
      exact ⟨x, ⟨cs, h1, hr⟩, hi'⟩
    obtain ⟨l, hll, hp⟩ := pick_list elems.length key
    have hI : ∀ x ∈ l, I x := fun x hx => by
      obtain ⟨i, hi, rfl⟩ := List.mem_iff_getElem.1 hx
      exact (hp i _ (List.getElem?_eq_getElem hi)).2
    refine ⟨⟨l, false⟩, ?_, by simp only; omega, hI⟩
    refine .one ?_ rfl
    cases hz : elems.length with
    | zero =>
      have : l = [] := List.eq_nil_of_length_eq_zero (by omega)
      subst this
      exact .ro0 E false _ cap (fun h => by cases h)
    | succ k =>
      have hsp : a.spot = none := by
        have hlt : 0 < l.length := by omega
        obtain ⟨⟨cs, h1, hr⟩, -⟩ := hp 0 _ (List.getElem?_eq_getElem hlt)
        have hcl := cells_len h1
        have : cs[0]? = some (cs[0]'(by omega)) := List.getElem?_eq_getElem (by omega)
        have := cells_get h1 this
        simp only [Nat.zero_mul] at this
        rw [show (a.add 0).add 0 = a from by simp [Addr.add]] at this
        rw [cell_plain this]
      obtain ⟨b, o, sp⟩ := a
      simp only at hsp
      subst hsp
      have val : ∀ (i : Nat) (x : List AV) (j : Nat) c, (l.map f)[i]? = some x → x[j]? = some c → ∃ v, w.cell? ⟨b, o + i * E + j, none⟩ = some v ∧ Rep (roOf w) c v ∧ v.oneCell' = true := fun i x j c hx hc => by
        rw [List.getElem?_map, Option.map_eq_some_iff] at hx
        obtain ⟨y, hy, rfl⟩ := hx
        obtain ⟨⟨cs, h1, hr⟩, -⟩ := hp i y hy
        have hj : j < cs.length := by
          rw [hr.1]
          exact (List.getElem?_eq_some_iff.1 hc).1
        have hv := List.getElem?_eq_getElem hj
        have := cells_get h1 hv
        rw [add_add _ _ _ rfl] at this
        exact ⟨_, this, hr.2.1 j c _ hc hv, hr.2.2 _ (List.getElem_mem hj)⟩
      have lm : (l.map f).length = k + 1 := by simp [hll, hz]
      rw [← lm]
      refine .ro E (l.map f) false b o cap (fun i j => (w.cell? ⟨b, o + i * E + j, none⟩).getD .nilFunc) ?_ (by simp; omega) (fun h => by cases h) ?_ ?_ ?_
      · intro x hx
        obtain ⟨y, -, rfl⟩ := List.mem_map.1 hx
        exact hl y
      · intro i x j c hx hc
        obtain ⟨v, h1, -⟩ := val i x j c hx hc
        show w.cell? _ = _
        rw [h1]
        rfl
      · intro i x j c hx hc
        obtain ⟨v, h1, h2, -⟩ := val i x j c hx hc
        rw [h1]
        exact h2
      · intro i x j c hx hc
        obtain ⟨v, h1, -, h2⟩ := val i x j c hx hc
        rw [h1]
        exact h2

variable (enc P w)
/-- Fields of one cell each. -/
def RdF (ts : List TypeId) {α : Type} (f : α → List AV) (I : α → Prop) : Prop :=
  ∀ (n : Nat) (vs : List Value) (xs : List (DataW H × List MemPlace)), vs.length = ts.length → xs.length = ts.length → (∀ (i : Nat) t, ts[i]? = some t → DataW.trod enc P w 0 (fun _ => true) true n t ((vs.drop i).take 1) = xs[i]?) → Rows.uptoBulkAll (xs.map (·.1)) ≤ 1048576 → ∃ a, CellsRep (roOf w) (f a) vs ∧ I a
variable {enc P w}

theorem rdF_nil : RdF enc P w [] (fun _ : Unit => []) (fun _ => True) := fun n vs xs h1 h2 _ _ => by
  have : vs = [] := List.eq_nil_of_length_eq_zero h1
  subst this
  exact ⟨(), .nil, trivial⟩

theorem rdF_cons {t : TypeId} {ts : List TypeId} {α β : Type} {f : α → AV} {f' : β → List AV} {I : α → Prop} {I' : β → Prop} (h : Rd enc P w t (fun a => [f a]) I) (g : RdF enc P w ts f' I') :
    RdF enc P w (t :: ts) (fun p : α × β => f p.1 :: f' p.2) (fun p => I p.1 ∧ I' p.2) := fun n vs xs h1 h2 h3 h4 => by
  match vs, xs, h1, h2 with
  | v :: vs, x :: xs, h1, h2 =>
    simp only [List.map_cons, Rows.uptoBulkAll] at h4
    have e0 := h3 0 t rfl
    simp only [List.drop_zero, List.take_succ_cons, List.take_zero, List.getElem?_cons_zero] at e0
    obtain ⟨a, ca, ia⟩ := h n _ _ e0 (by omega)
    obtain ⟨b, cb, ib⟩ := g n vs xs (by simpa using h1) (by simpa using h2) (fun i u hu => by simpa using h3 (i + 1) u (by simpa using hu)) (by omega)
    exact ⟨(a, b), ca.append cb, ia, ib⟩

def okFs (P : Program) : Nat → List Field → Bool
  | _, [] => true
  | i, f :: r => f.offset == i && P.cellsOf f.type == 1 && okFs P (i + 1) r

theorem okFs_get : ∀ (l : List Field) (i : Nat), okFs P i l = true → ∀ (j : Nat) f, l[j]? = some f → f.offset = i + j ∧ P.cellsOf f.type = 1
  | [], _, _, j, f, hf => by simp at hf
  | g :: r, i, h, j, f, hf => by
    simp only [okFs, Bool.and_eq_true, beq_iff_eq] at h
    cases j with
    | zero => simp at hf; subst hf; exact ⟨h.1.1, h.1.2⟩
    | succ j =>
      obtain ⟨h1, h2⟩ := okFs_get r (i + 1) h.2 j f (by simpa using hf)
      exact ⟨by omega, h2⟩

theorem rd_struct {t : TypeId} {fs : Array Field} {ts : List TypeId} {α : Type} {f : α → List AV} {I : α → Prop} (ht : P.underlying t = some (.struct fs)) (hts : fs.toList.map (·.type) = ts) (ho : okFs P 0 fs.toList = true) (hc : P.cellsOf t = ts.length)
    (h : RdF enc P w ts f I) : Rd enc P w t f I := fun n cs x hx hb => by
  obtain ⟨xs, m, rfl, rfl, hlen, hxs, hf⟩ := DataW.trod_struct ht hx
  simp only [Rows.uptoBulk] at hb
  refine h m cs xs (hlen.trans hc) (by rw [hxs, ← hts]; simp) (fun i u hu => ?_) (by omega)
  rw [← hts, List.getElem?_map, Option.map_eq_some_iff] at hu
  obtain ⟨fl, hfl, rfl⟩ := hu
  obtain ⟨e1, e2⟩ := okFs_get fs.toList 0 ho i fl hfl
  have := hf i fl (by simpa using hfl)
  rw [e1, e2, Nat.zero_add] at this
  exact this
end

end Go.Proofs.YtfhflogbffibiaaGreat

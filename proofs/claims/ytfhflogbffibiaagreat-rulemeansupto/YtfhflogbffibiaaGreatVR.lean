/-
  Values without names; a value frozen; contracts of calls.
-/
import Derived.Test.YtfhflogbffibiaaGreatVQ
import Derived.Test.YtfhflogbffibiaaGreatVM
import Derived.Deep.LoopGhost
import Derived.Tactics
namespace Go.Proofs.YtfhflogbffibiaaGreat
open Go
set_option linter.unusedSimpArgs false
set_option linter.unusedVariables false

/-- No names in it, to some depth. -/
def AV.plainN : Nat → AV → Bool
  | 0, _ => false
  | n + 1, a => match a with
    | .agg cs => cs.all (plainN n)
    | .tup cs => cs.all (plainN n)
    | .ro _ xs _ => xs.all (fun x => x.all (plainN n))
    | .rp cs => cs.all (plainN n)
    | .np _ _ => false
    | .ns _ _ _ _ _ => false
    | .gs _ _ _ _ => false
    | .fn _ cs => cs.all (plainN n)
    | _ => true

def optL {α β : Type} (f : α → Option β) : List α → Option (List β)
  | [] => some []
  | a :: r => match f a with
    | some b => match optL f r with
      | some s => some (b :: s)
      | none => none
    | none => none

/-- FROZEN: what names stand for is read off the heap. -/
def freeze (H : Heap) : Nat → AV → Option AV
  | 0, _ => none
  | n + 1, a => if a.plainN (n + 1) then some a else match a with
    | .agg cs => (optL (freeze H n) cs).map .agg
    | .tup cs => (optL (freeze H n) cs).map .tup
    | .ro E xs c => (optL (optL (freeze H n)) xs).map fun ys => .ro E ys c
    | .rp cs => (optL (freeze H n) cs).map .rp
    | .np nm o => match cellsAt H nm with
      | some cs => (optL (freeze H n) (cs.drop o)).map .rp
      | none => none
    | .ns nm E o len cap => match elsV H E (.ns nm E o len cap) with
      | some xs => if len ≤ cap then (optL (optL (freeze H n)) xs).map fun ys => .ro E ys (len == cap) else none
      | none => none
    | .gs nm E off len => match elsV H E (.gs nm E off len) with
      | some xs => (optL (optL (freeze H n)) xs).map fun ys => .ro E ys false
      | none => none
    | .fn f cs => (optL (freeze H n) cs).map (.fn f)
    | a => some a

theorem optL_some {α β : Type} {f : α → Option β} : ∀ {xs : List α} {ys : List β}, optL f xs = some ys → ys.length = xs.length ∧ ∀ (i : Nat) y, ys[i]? = some y → ∃ x, xs[i]? = some x ∧ f x = some y
  | [], ys, h => by cases h; exact ⟨rfl, fun i y h => by simp at h⟩
  | a :: r, ys, h => by
    simp only [optL] at h
    split at h
    · rename_i b hb
      split at h
      · rename_i s hs
        cases h
        obtain ⟨h1, h2⟩ := optL_some hs
        refine ⟨by simp [h1], fun i y hy => ?_⟩
        cases i with
        | zero => simp at hy; subst hy; exact ⟨a, rfl, hb⟩
        | succ i => obtain ⟨x, g1, g2⟩ := h2 i y (by simpa using hy); exact ⟨x, by simpa using g1, g2⟩
      · cases h
    · cases h

theorem all_get {α : Type} {p : α → Bool} {xs : List α} (h : xs.all p = true) {i : Nat} {x : α} (hx : xs[i]? = some x) : p x = true := List.all_eq_true.1 h x (List.mem_of_getElem? hx)

section
variable {Γ Γ' : RO}

theorem plain_rep (hg : ∀ b o v, Γ.g b o = some v → Γ'.g b o = some v) : ∀ (n : Nat) {a : AV} {v : Value}, a.plainN n = true → Rep Γ a v → Rep Γ' a v
  | 0, a, v, h, _ => by cases h
  | n + 1, a, v, h, r => by
    cases r with
    | any v => exact .any v
    | int k m => exact .int k m
    | bool b => exact .bool b
    | str s => exact .str s
    | raw v => exact .raw v
    | agg cs vs h1 h2 h3 => exact .agg cs vs h1 (fun i c u hc hu => plain_rep hg n (all_get h hc) (h2 i c u hc hu)) h3
    | tup cs vs h1 h2 => exact .tup cs vs h1 (fun i c u hc hu => plain_rep hg n (all_get h hc) (h2 i c u hc hu))
    | ro E xs clip b o cap f h1 h2 h3 h4 h5 h6 => exact .ro E xs clip b o cap f h1 h2 h3 (fun i x j c hx hc => hg _ _ _ (h4 i x j c hx hc)) (fun i x j c hx hc => plain_rep hg n (all_get (all_get (p := fun x : List AV => x.all (AV.plainN n)) (show xs.all (fun x => x.all (AV.plainN n)) = true from h) hx) hc) (h5 i x j c hx hc)) h6
    | ro0 E clip q cap h1 => exact .ro0 E clip q cap h1
    | rp cs b o f h1 h2 h3 => exact .rp cs b o f (fun j c hc => hg _ _ _ (h1 j c hc)) (fun j c hc => plain_rep hg n (all_get h hc) (h2 j c hc)) h3
    | np nm o b c h1 => cases h
    | ns nm E o len cap b c h1 => cases h
    | gs nm E off len b c q h1 h2 h3 => cases h
    | fn f cs vs h1 h2 => exact .fn f cs vs h1 (fun i c u hc hu => plain_rep hg n (all_get h hc) (h2 i c u hc hu))

/-- A cell's value, or nothing in particular. -/
def cellD (w : World) (b o : Nat) : Value := (w.cell? ⟨b, o, none⟩).getD undef

theorem cellD_of {w : World} {b o : Nat} {v : Value} (h : w.cell? ⟨b, o, none⟩ = some v) : cellD w b o = v := by simp [cellD, h]

theorem list_opt {cs ds : List AV} {n : Nat} {H : Heap} (h : optL (freeze H n) cs = some ds) {i : Nat} {c d : AV} (hc : cs[i]? = some c) (hd : ds[i]? = some d) : freeze H n c = some d := by
  obtain ⟨x, h1, h2⟩ := (optL_some h).2 i d hd
  rw [hc] at h1; cases h1; exact h2

/-- The frozen value says what the value said. -/
theorem freeze_rep {w : World} {F : Nat → Prop} {H : Heap} (hb : Base Γ w) (hF : ∀ b, F b → b < w.heap.size) (hH : HeapRep Γ w F H) (hg : ∀ b o v, Γ.g b o = some v → Γ'.g b o = some v)
    (hf : ∀ nm b c o v, H nm ≠ none → H nm ≠ some .dead → Γ.nu nm = some (b, c) → w.cell? ⟨b, o, none⟩ = some v → Γ'.g b o = some v) :
    ∀ (n : Nat) {a a' : AV} {v : Value}, freeze H n a = some a' → Rep Γ a v → Rep Γ' a' v
  | 0, a, a', v, h, _ => by cases h
  | n + 1, a, a', v, h, r => by
    have IH := @freeze_rep w F H hb hF hH hg hf n
    simp only [freeze] at h
    split at h
    · rename_i hp
      cases h; exact plain_rep hg _ hp r
    rename_i hnp
    cases a with
    | any => cases h; exact .any v
    | int k m => cases h; cases r; exact .int k m
    | bool b => cases h; cases r; exact .bool b
    | str s => cases h; cases r; exact .str s
    | raw u => cases h; cases r; exact .raw _
    | agg cs =>
      obtain ⟨ds, hd, rfl⟩ := Option.map_eq_some_iff.1 h
      cases r with
      | agg cs vs h1 h2 h3 =>
        refine .agg ds vs (by rw [(optL_some hd).1, h1]) (fun i d u hd' hu => ?_) h3
        obtain ⟨x, g1, g2⟩ := (optL_some hd).2 i d hd'
        exact IH g2 (h2 i x u g1 hu)
    | tup cs =>
      obtain ⟨ds, hd, rfl⟩ := Option.map_eq_some_iff.1 h
      cases r with
      | tup cs vs h1 h2 =>
        refine .tup ds vs (by rw [(optL_some hd).1, h1]) (fun i d u hd' hu => ?_)
        obtain ⟨x, g1, g2⟩ := (optL_some hd).2 i d hd'
        exact IH g2 (h2 i x u g1 hu)
    | fn f cs =>
      obtain ⟨ds, hd, rfl⟩ := Option.map_eq_some_iff.1 h
      cases r with
      | fn f cs vs h1 h2 =>
        refine .fn f ds vs (by rw [(optL_some hd).1, h1]) (fun i d u hd' hu => ?_)
        obtain ⟨x, g1, g2⟩ := (optL_some hd).2 i d hd'
        exact IH g2 (h2 i x u g1 hu)
    | rp cs =>
      obtain ⟨ds, hd, rfl⟩ := Option.map_eq_some_iff.1 h
      cases r with
      | rp cs b o f h1 h2 h3 =>
        refine .rp ds b o f (fun j d hd' => ?_) (fun j d hd' => ?_) (fun j d hd' => ?_) <;> obtain ⟨x, g1, g2⟩ := (optL_some hd).2 j d hd'
        · exact hg _ _ _ (h1 j x g1)
        · exact IH g2 (h2 j x g1)
        · exact h3 j x g1
    | ro E xs c =>
      obtain ⟨ys, hy, rfl⟩ := Option.map_eq_some_iff.1 h
      have look : ∀ (i : Nat) y, ys[i]? = some y → ∃ x, xs[i]? = some x ∧ optL (freeze H n) x = some y := (optL_some hy).2
      cases r with
      | ro E xs clip b o cap f h1 h2 h3 h4 h5 h6 =>
        have hl := (optL_some hy).1
        have el : ∀ (i : Nat) y (j : Nat) d, ys[i]? = some y → y[j]? = some d → ∃ x e, xs[i]? = some x ∧ x[j]? = some e ∧ freeze H n e = some d := fun i y j d hi hj => by
          obtain ⟨x, g1, g2⟩ := look i y hi
          obtain ⟨e, k1, k2⟩ := (optL_some g2).2 j d hj
          exact ⟨x, e, g1, k1, k2⟩
        have hr : Rep Γ' (.ro E ys c) (.slice (some ⟨b, o, none⟩) ys.length cap) := by
          refine .ro E ys c b o cap f (fun y hy' => ?_) (by omega) (fun h => by rw [h3 h, hl]) (fun i y j d hi hj => ?_) (fun i y j d hi hj => ?_) (fun i y j d hi hj => ?_)
          · obtain ⟨i, hi⟩ := List.mem_iff_getElem?.1 hy'
            obtain ⟨x, g1, g2⟩ := look i y hi
            rw [(optL_some g2).1]; exact h1 x (List.mem_of_getElem? g1)
          · obtain ⟨x, e, g1, k1, _⟩ := el i y j d hi hj; exact hg _ _ _ (h4 i x j e g1 k1)
          · obtain ⟨x, e, g1, k1, k2⟩ := el i y j d hi hj; exact IH k2 (h5 i x j e g1 k1)
          · obtain ⟨x, e, g1, k1, _⟩ := el i y j d hi hj; exact h6 i x j e g1 k1
        rw [hl] at hr; exact hr
      | ro0 E clip q cap hc =>
        cases hy; exact .ro0 E c q cap hc
    | np nm o =>
      simp only at h
      split at h
      · rename_i cs hcs
        obtain ⟨ds, hd, rfl⟩ := Option.map_eq_some_iff.1 h
        obtain ⟨b, c, rfl, hn⟩ := r.np_inv
        have hl := (hH.lies hcs hn).drop o
        simp only [Nat.zero_add] at hl
        have hlive : H nm ≠ none ∧ H nm ≠ some .dead := by
          unfold cellsAt at hcs
          constructor <;> intro e <;> rw [e] at hcs <;> cases hcs
        refine .rp ds b o (fun j => cellD w b (o + j)) (fun j d hd' => ?_) (fun j d hd' => ?_) (fun j d hd' => ?_) <;> obtain ⟨x, g1, g2⟩ := (optL_some hd).2 j d hd' <;> obtain ⟨u, k1, k2, k3⟩ := hl j x g1
        · rw [cellD_of k1]; exact hf nm b c _ _ hlive.1 hlive.2 hn k1
        · rw [cellD_of k1]; exact IH g2 k2
        · rw [cellD_of k1]; exact k3
      · cases h
    | ns nm E o len cap =>
      simp only at h
      split at h
      · rename_i xs hxs
        split at h
        case isFalse => cases h
        rename_i hlecap
        obtain ⟨ys, hy, rfl⟩ := Option.map_eq_some_iff.1 h
        have hc : Conc 0 F Γ w Γ ⟨fun _ => .any, H⟩ ⟨#[], []⟩ w := ⟨rfl, rfl, hb, Ext.refl F Γ w, hF, fun t => .any _, hH⟩
        obtain ⟨q, cap', vs, e1, e2, e3, e4, e5⟩ := els_open hc hxs r
        obtain ⟨b, c, hv, hn⟩ := r.ns_inv
        rw [hv] at e1
        simp only [Value.slice.injEq] at e1
        obtain ⟨e1a, e1b, e1c⟩ := e1
        subst e1a; subst e1c
        have hlive : H nm ≠ none ∧ H nm ≠ some .dead := by
          simp only [elsV] at hxs
          constructor <;> intro e <;> rw [cellsAt, e] at hxs <;> cases hxs
        have hl := (optL_some hy).1
        have el : ∀ (i : Nat) y (j : Nat) d, ys[i]? = some y → y[j]? = some d → ∃ e u, xs.flatten[i * E + j]? = some e ∧ freeze H n e = some d ∧ vs[i * E + j]? = some u ∧ w.cell? ⟨b, o + i * E + j, none⟩ = some u := fun i y j d hi hj => by
          obtain ⟨x, g1, g2⟩ := (optL_some hy).2 i y hi
          obtain ⟨e, k1, k2⟩ := (optL_some g2).2 j d hj
          have hfl := flatten_get e2 g1 k1
          have hlt : i * E + j < vs.length := by rw [e3.1]; exact (List.getElem?_eq_some_iff.1 hfl).1
          have hu := List.getElem?_eq_getElem hlt
          obtain ⟨b', o', q1, q2⟩ := e5 _ _ hu
          cases q1
          exact ⟨e, _, hfl, k2, hu, by rw [Nat.add_assoc]; exact q2⟩
        have hr : Rep Γ' (.ro E ys (len == cap)) (.slice (some ⟨b, o, none⟩) ys.length cap) := by
          refine .ro E ys _ b o cap (fun i j => cellD w b (o + i * E + j)) (fun y hy' => ?_) (by omega) (fun h => ?_) (fun i y j d hi hj => ?_) (fun i y j d hi hj => ?_) (fun i y j d hi hj => ?_)
          · obtain ⟨i, hi⟩ := List.mem_iff_getElem?.1 hy'
            obtain ⟨x, g1, g2⟩ := (optL_some hy).2 i y hi
            rw [(optL_some g2).1]; exact e2 x (List.mem_of_getElem? g1)
          · rw [hl, ← e1b]; exact (beq_iff_eq.1 h).symm
          · obtain ⟨e, u, _, _, _, k4⟩ := el i y j d hi hj; rw [cellD_of k4]; exact hf nm b c _ _ hlive.1 hlive.2 hn k4
          · obtain ⟨e, u, k1, k2, k3, k4⟩ := el i y j d hi hj; rw [cellD_of k4]; exact IH k2 (e3.2.1 _ _ _ k1 k3)
          · obtain ⟨e, u, k1, k2, k3, k4⟩ := el i y j d hi hj; rw [cellD_of k4]; exact e3.2.2 _ (List.mem_of_getElem? k3)
        have hlen : ys.length = len := by omega
        rw [hv]; rw [hlen] at hr; exact hr
      · cases h
    | gs nm E off len =>
      simp only at h
      split at h
      · rename_i xs hxs
        obtain ⟨ys, hy, rfl⟩ := Option.map_eq_some_iff.1 h
        have hc : Conc 0 F Γ w Γ ⟨fun _ => .any, H⟩ ⟨#[], []⟩ w := ⟨rfl, rfl, hb, Ext.refl F Γ w, hF, fun t => .any _, hH⟩
        obtain ⟨q, cap', vs, e1, e2, e3, e4, e5⟩ := els_open hc hxs r
        obtain ⟨b, c, q', hv, hn, hlc, hq'⟩ := r.gs_inv
        rw [hv] at e1
        simp only [Value.slice.injEq] at e1
        obtain ⟨e1a, e1b, e1c⟩ := e1
        subst e1a; subst e1c
        have hlive : H nm ≠ none ∧ H nm ≠ some .dead := by
          simp only [elsV] at hxs
          constructor <;> intro e <;> rw [e] at hxs <;> cases hxs
        have hl := (optL_some hy).1
        rcases Nat.eq_zero_or_pos len with h0 | h0
        · subst h0
          have : ys = [] := List.length_eq_zero_iff.1 (by omega)
          subst this
          rw [hv]; exact .ro0 E false _ _ (fun h => by cases h)
        have hqq := hq' (by omega)
        subst hqq
        have el : ∀ (i : Nat) y (j : Nat) d, ys[i]? = some y → y[j]? = some d → ∃ e u, xs.flatten[i * E + j]? = some e ∧ freeze H n e = some d ∧ vs[i * E + j]? = some u ∧ w.cell? ⟨b, off * E + i * E + j, none⟩ = some u := fun i y j d hi hj => by
          obtain ⟨x, g1, g2⟩ := (optL_some hy).2 i y hi
          obtain ⟨e, k1, k2⟩ := (optL_some g2).2 j d hj
          have hfl := flatten_get e2 g1 k1
          have hlt : i * E + j < vs.length := by rw [e3.1]; exact (List.getElem?_eq_some_iff.1 hfl).1
          have hu := List.getElem?_eq_getElem hlt
          obtain ⟨b', o', q1, q2⟩ := e5 _ _ hu
          cases q1
          exact ⟨e, _, hfl, k2, hu, by rw [Nat.add_assoc]; exact q2⟩
        have hr : Rep Γ' (.ro E ys false) (.slice (some ⟨b, off * E, none⟩) ys.length (c - off)) := by
          refine .ro E ys _ b (off * E) (c - off) (fun i j => cellD w b (off * E + i * E + j)) (fun y hy' => ?_) (by omega) (fun h => by cases h) (fun i y j d hi hj => ?_) (fun i y j d hi hj => ?_) (fun i y j d hi hj => ?_)
          · obtain ⟨i, hi⟩ := List.mem_iff_getElem?.1 hy'
            obtain ⟨x, g1, g2⟩ := (optL_some hy).2 i y hi
            rw [(optL_some g2).1]; exact e2 x (List.mem_of_getElem? g1)
          · obtain ⟨e, u, _, _, _, k4⟩ := el i y j d hi hj; rw [cellD_of k4]; exact hf nm b c _ _ hlive.1 hlive.2 hn k4
          · obtain ⟨e, u, k1, k2, k3, k4⟩ := el i y j d hi hj; rw [cellD_of k4]; exact IH k2 (e3.2.1 _ _ _ k1 k3)
          · obtain ⟨e, u, k1, k2, k3, k4⟩ := el i y j d hi hj; rw [cellD_of k4]; exact e3.2.2 _ (List.mem_of_getElem? k3)
        rw [hv, e1b, ← hl]; exact hr
      · cases h
end

end Go.Proofs.YtfhflogbffibiaaGreat

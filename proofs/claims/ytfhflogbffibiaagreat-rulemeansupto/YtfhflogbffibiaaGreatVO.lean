/-
  Zeros appended; clear; a byte of a string; make.
-/
import Derived.Test.YtfhflogbffibiaaGreatVN
namespace Go.Proofs.YtfhflogbffibiaaGreat
open Go
set_option linter.unusedSimpArgs false
set_option linter.unusedVariables false

theorem wrap_small {m : Int} (h0 : 0 ≤ m) (h1 : m ≤ 2 ^ 40) : IntKind.i64.wrap m = m := by
  have : m % 18446744073709551616 = m := Int.emod_eq_of_lt h0 (by omega)
  simp [IntKind.wrap, IntKind.bits, IntKind.signed]
  omega

section
variable {P : Program} {n : Nat} {F : Nat → Prop} {Γ0 : RO} {w0 : World} {Γ : RO} {s : St} {a : Act} {w : World}

theorem constsOk_one : ∀ {vs : List Value} {zs : List AV}, constsOk vs zs = true → ∀ v ∈ vs, v.oneCell' = true
  | [], [], _, v, h => by cases h
  | u :: vs, x :: xs, h, v, hv => by
    simp only [constsOk, Bool.and_eq_true] at h
    rcases List.mem_cons.1 hv with rfl | hv
    · exact (constOk_rep h.1 { g := fun _ _ => none, nu := fun _ => none }).2
    · exact constsOk_one h.2 v hv
  | [], _ :: _, h, _, _ => by cases h
  | _ :: _, [], h, _, _ => by cases h

theorem zeroCells_toList (z : Array Value) (m : Nat) : (Builtin.zeroCells z m).toList = (List.replicate m z.toList).flatten := by
  apply List.ext_getElem?
  intro k
  rcases Nat.eq_zero_or_pos z.size with h | h
  · have : z = #[] := Array.eq_empty_of_size_eq_zero h
    subst this
    simp [Builtin.zeroCells]
  · by_cases hk : k < m * z.size
    · have h1 : (Builtin.zeroCells z m).toList[k]? = some (z[k % z.size]'(Nat.mod_lt _ h)) := by
        simp [Builtin.zeroCells, hk, getElem!_pos z (k % z.size) (Nat.mod_lt k h)]
      rw [h1]
      have hall : ∀ y ∈ List.replicate m z.toList, y.length = z.size := fun y hy => by rw [List.eq_of_mem_replicate hy]; simp
      have hi : k / z.size < m := by rw [Nat.div_lt_iff_lt_mul h]; exact hk
      have key : ∀ (l : List (List Value)) (E i j : Nat) x, (∀ y ∈ l, y.length = E) → l[i]? = some x → j < E → l.flatten[i * E + j]? = x[j]? := by
        intro l
        induction l with
        | nil => intro E i j x _ h; simp at h
        | cons y l ih =>
          intro E i j x hl hx hj
          have hy := hl y (by simp)
          cases i with
          | zero =>
            simp at hx; subst hx
            rw [List.flatten_cons, Nat.zero_mul, Nat.zero_add, List.getElem?_append_left (by omega)]
          | succ i =>
            rw [List.flatten_cons, List.getElem?_append_right (by rw [hy, Nat.add_mul]; omega), hy, show (i + 1) * E + j - E = i * E + j by rw [Nat.add_mul]; omega]
            exact ih E i j x (fun z hz => hl z (by simp [hz])) (by simpa using hx) hj
      have := key _ z.size (k / z.size) (k % z.size) z.toList hall (by simp [hi]) (Nat.mod_lt _ h)
      rw [Nat.mul_comm, Nat.div_add_mod] at this
      rw [this]
      simp [Nat.mod_lt _ h]
    · rw [List.getElem?_eq_none (by simp [Builtin.zeroCells]; omega), List.getElem?_eq_none]
      have : (List.replicate m z.toList).flatten.length = m * z.size := by simp [List.length_flatten]
      omega

theorem zeros_rep {vs : List Value} {zs : List AV} (h : constsOk vs zs = true) (m : Nat) (Γ : RO) : CellsRep Γ (List.replicate m zs).flatten (List.replicate m vs).flatten := by
  induction m with
  | zero => simpa using CellsRep.nil
  | succ m ih => simpa [List.replicate_succ] using (constsOk_rep h Γ).append ih

/-- Zeros that are appended. -/
theorem srcZ {t tx ty e : TypeId} {i : TypeInfo} {z : Value} {k : IntKind} {m : Int} {bytes : Nat} (ht : P.underlying t = some (.slice e)) (htx : P.underlying tx = some (.int k)) (hi : P.info? e = some i) (hz : i.zero = some z) (hby : i.bytes = bytes) (hpos : 0 < bytes) (hzs : z.cells.size = i.size)
    (hz1 : ∀ v ∈ z.cells, v.oneCell' = true) (h0 : 0 ≤ m) (h40 : m * bytes ≤ 2 ^ 40) : SrcW P t tx ty e i z (.int .i64 m) m.toNat (List.replicate m.toNat z.cells.toList).flatten w := by
  have hm : m ≤ 2 ^ 40 := by
    have : m * 1 ≤ m * bytes := Int.mul_le_mul_of_nonneg_left (by omega) h0
    omega
  have hw := wrap_small h0 hm
  have e1 : ¬ (m < 0) := by omega
  have e2 : ¬ (281474976710656 < m * (i.bytes : Int)) := by rw [hby]; omega
  have hzc := zeroCells_toList z.cells m.toNat
  have hnil : m.toNat * i.size = 0 → (List.replicate m.toNat z.cells.toList).flatten = [] := fun hzero => by
    have hl : (List.replicate m.toNat z.cells.toList).flatten.length = 0 := by simp [List.length_flatten, hzs, hzero]
    exact List.length_eq_zero_iff.1 hl
  refine ⟨fun b off sLen sCap h1 h2 h3 => ?_, fun base sLen sCap olds h1 h2 h3 h4 => ?_, fun hm0 base sLen sCap h1 => ?_, by simp [List.length_flatten, hzs], fun u hu => ?_⟩
  · have hst := run_storeCells_cells (P := P) b (off + sLen * i.size) (List.replicate m.toNat z.cells.toList).flatten 0 w (by simpa using h2) (by simpa using h3) (fun u hu => by
      obtain ⟨l, hl, hul⟩ := List.mem_flatten.1 hu
      rw [List.eq_of_mem_replicate hl] at hul
      exact hz1 u (by simpa using hul))
    simp only [Nat.add_zero] at hst
    by_cases hq : m.toNat * i.size = 0
    · rw [hnil hq] at hst ⊢
      simp [Builtin.append_, run_underlying ht, run_underlying htx, sizeOf, typeInfo, hi, asInt, asIntOf, hw, e1, e2, h1, hq, Addr.add_lit, hst]
    · simp [Builtin.append_, run_underlying ht, run_underlying htx, sizeOf, typeInfo, zeroValue, hi, hz, asInt, asIntOf, hw, e1, e2, h1, hq, hzc, Addr.add_lit, hst]
  · have hn : ¬ (sLen + m.toNat ≤ sCap) := by omega
    have h63' : ¬ (9223372036854775807 < ((sLen : Int) + (m.toNat : Int))) := by omega
    have h48' : ¬ (281474976710656 < Builtin.nextslicecap (sLen + m.toNat) sCap * i.bytes) := by omega
    have hmx : max m 0 = m := by omega
    have h63'' : ¬ (9223372036854775807 < (sLen : Int) + m) := by omega
    by_cases hq : m.toNat * i.size = 0
    · rw [hnil hq]
      simp [Builtin.append_, run_underlying ht, run_underlying htx, sizeOf, typeInfo, zeroValue, hi, hz, asInt, asIntOf, hw, e1, e2, hn, hq, hmx, h63'', h48', Question.forced, h1, newRow, grownCap]
    · simp [Builtin.append_, run_underlying ht, run_underlying htx, sizeOf, typeInfo, zeroValue, hi, hz, asInt, asIntOf, hw, e1, e2, hn, hq, hmx, h63'', h48', Question.forced, h1, newRow, grownCap]
      congr 2
      apply Array.ext'
      simp [List.append_assoc, hzc]
  · have hl0 : (List.replicate m.toNat z.cells.toList).flatten = [] := hnil (by rw [hm0]; simp)
    have hq : m.toNat * i.size = 0 := by rw [hm0]; simp
    have h1' : sLen + m.toNat ≤ sCap := by omega
    cases base <;> simp [Builtin.append_, run_underlying ht, run_underlying htx, sizeOf, typeInfo, hi, asInt, asIntOf, hw, e1, e2, h1', h1, hm0, storeCells]
  · obtain ⟨l, hl, hul⟩ := List.mem_flatten.1 hu
    rw [List.eq_of_mem_replicate hl] at hul
    exact hz1 u (by simpa using hul)
end

end Go.Proofs.YtfhflogbffibiaaGreat

/-
  Walks: small functions.
-/
import Derived.Test.YtfhflogbffibiaaGreatWD
import Derived.Test.YtfhflogbffibiaaGreatKG
namespace Go.Proofs.YtfhflogbffibiaaGreat
open Go
set_option linter.unusedVariables false
set_option linter.unusedSimpArgs false

/-- rule.in -/
theorem pure58 (n lo hi : Int) : Pure 58 [.int .i64 n, .int .i64 lo, .int .i64 hi] (.bool (decide (lo ≤ n) && decide (n ≤ hi))) := by
  refine .of_plain rfl (fn_run g58 rfl (Nat.le_of_ble_eq_true rfl) ?_)
  dsimp only [k58, c58]
  simp only [S0, S1, S2, S3, S4, S5, isnilV, Nat.reduceLT, updH, LA.ev, initA, evs, convV, faV, nckV, extV, stV, ldV, cellsAt, HO.cells, HO.wr, rdCells, wrCells, AV.cells, fillV, partsV, binV, intBin, unV, mmL, mmV, lenV, capV, Nat.reduceAdd, Nat.reduceEqDiff, Nat.reduceLeDiff, Nat.reduceMul, Nat.reduceSub, Nat.le_refl, reduceCtorEq, reduceIte, resV, retV, Ex.done, noH, implies_true, imp_self, forall_const, Nat.not_lt_zero, Int.reduceLT, Int.reduceLE]
  refine run_gdt (fun h => ?_) (fun h => ?_) <;> simp only [S0, S1, S2, S3, S4, S5, isnilV, Nat.reduceLT, updH, LA.ev, initA, evs, convV, faV, nckV, extV, stV, ldV, cellsAt, HO.cells, HO.wr, rdCells, wrCells, AV.cells, fillV, partsV, binV, intBin, unV, mmL, mmV, lenV, capV, Nat.reduceAdd, Nat.reduceEqDiff, Nat.reduceLeDiff, Nat.reduceMul, Nat.reduceSub, Nat.le_refl, reduceCtorEq, reduceIte, resV, retV, Ex.done, noH, implies_true, imp_self, forall_const, Nat.not_lt_zero, Int.reduceLT, Int.reduceLE, h]
  all_goals simp at h; simp [h]

theorem call58 (n lo hi : Int) {strict : Bool} {base cx : Nat} {s : St} {d : Option Nat} {k : List KI} {wr : Bool} {Q : Ex → St → Nat → Bool → Prop} : Run base (.call strict 58 [.int .i64 n, .int .i64 lo, .int .i64 hi] d :: k) s cx wr Q ↔ Run base k ⟨updF s.fr d (.bool (decide (lo ≤ n) && decide (n ≤ hi))), s.H⟩ cx wr Q := run_pure (pure58 n lo hi) rfl rfl

/-- rule.Check -/
theorem pure19 (a b c d : Int) : Pure 19 [.agg [.int .i64 a, .int .i64 b, .int .i64 c, .int .i64 d]] (.int .i64 (if 1 ≤ a ∧ a ≤ 32 ∧ 1 ≤ b ∧ b ≤ 2 ∧ 4 ≤ c ∧ c ≤ 400 ∧ 60 ≤ d ∧ d ≤ 1000 ∧ 2 * c + d ≤ 1024 then 0 else 1)) := by
  refine .of_plain rfl (fn_run g19 rfl (Nat.le_of_ble_eq_true rfl) ?_)
  dsimp only [k19, c19]
  simp only [S0, S1, S2, S3, S4, S5, isnilV, Nat.reduceLT, updH, LA.ev, initA, evs, convV, faV, nckV, extV, stV, ldV, cellsAt, HO.cells, HO.wr, rdCells, wrCells, AV.cells, fillV, partsV, binV, intBin, unV, mmL, mmV, lenV, capV, Nat.reduceAdd, Nat.reduceEqDiff, Nat.reduceLeDiff, Nat.reduceMul, Nat.reduceSub, Nat.le_refl, reduceCtorEq, reduceIte, resV, retV, Ex.done, noH, implies_true, imp_self, forall_const, Nat.not_lt_zero, Int.reduceLT, Int.reduceLE, call58]
  repeat' (first | refine run_gdt (fun h => ?_) (fun h => ?_) <;> simp only [S0, S1, S2, S3, S4, S5, isnilV, Nat.reduceLT, updH, LA.ev, initA, evs, convV, faV, nckV, extV, stV, ldV, cellsAt, HO.cells, HO.wr, rdCells, wrCells, AV.cells, fillV, partsV, binV, intBin, unV, mmL, mmV, lenV, capV, Nat.reduceAdd, Nat.reduceEqDiff, Nat.reduceLeDiff, Nat.reduceMul, Nat.reduceSub, Nat.le_refl, reduceCtorEq, reduceIte, resV, retV, Ex.done, noH, implies_true, imp_self, forall_const, Nat.not_lt_zero, Int.reduceLT, Int.reduceLE, call58, h] | refine run_gdf (fun h => ?_) (fun h => ?_) <;> simp only [S0, S1, S2, S3, S4, S5, isnilV, Nat.reduceLT, updH, LA.ev, initA, evs, convV, faV, nckV, extV, stV, ldV, cellsAt, HO.cells, HO.wr, rdCells, wrCells, AV.cells, fillV, partsV, binV, intBin, unV, mmL, mmV, lenV, capV, Nat.reduceAdd, Nat.reduceEqDiff, Nat.reduceLeDiff, Nat.reduceMul, Nat.reduceSub, Nat.le_refl, reduceCtorEq, reduceIte, resV, retV, Ex.done, noH, implies_true, imp_self, forall_const, Nat.not_lt_zero, Int.reduceLT, Int.reduceLE, call58, h] | refine run_sel (fun h => ?_) (fun h => ?_) <;> simp only [S0, S1, S2, S3, S4, S5, isnilV, Nat.reduceLT, updH, LA.ev, initA, evs, convV, faV, nckV, extV, stV, ldV, cellsAt, HO.cells, HO.wr, rdCells, wrCells, AV.cells, fillV, partsV, binV, intBin, unV, mmL, mmV, lenV, capV, Nat.reduceAdd, Nat.reduceEqDiff, Nat.reduceLeDiff, Nat.reduceMul, Nat.reduceSub, Nat.le_refl, reduceCtorEq, reduceIte, resV, retV, Ex.done, noH, implies_true, imp_self, forall_const, Nat.not_lt_zero, Int.reduceLT, Int.reduceLE, call58, h])
  all_goals (simp [wrap64] at * <;> omega)

/-! ### rate.Price -/


def pstep (qos t : Int) (b : Rate × Int) (r : Rate) : Rate × Int := if r.qos = qos ∧ r.frm ≤ t ∧ (b.2 ≠ 0 ∨ b.1.frm ≤ r.frm) then (r, 0) else b

def priceF (rs : List Rate) (qos t : Int) : Rate × Int := rs.foldl (pstep qos t) (⟨0, 0, 0⟩, 12)

theorem pure107 (rs : List Rate) (c : Bool) (qos t : Int) (hl : rs.length ≤ 1073741824) : Pure 107 [.ro 3 (rs.map Rate.cells) c, .int .i64 qos, .int .i64 t] (.tup [.int .i64 (priceF rs qos t).1.price, .int .i64 (priceF rs qos t).2]) := by
  refine .of_plain rfl (fn_run g107 rfl (Nat.le_of_ble_eq_true rfl) ?_)
  dsimp only [k107, c107]
  simp only [S0, S1, S2, S3, S4, S5, isnilV, Nat.reduceLT, updH, LA.ev, initA, evs, convV, faV, nckV, extV, stV, ldV, cellsAt, HO.cells, HO.wr, rdCells, wrCells, AV.cells, fillV, partsV, binV, intBin, unV, mmL, mmV, lenV, capV, Nat.reduceAdd, Nat.reduceEqDiff, Nat.reduceLeDiff, Nat.reduceMul, Nat.reduceSub, Nat.le_refl, reduceCtorEq, reduceIte, resV, retV, Ex.done, noH, implies_true, imp_self, forall_const, Nat.not_lt_zero, Int.reduceLT, Int.reduceLE, List.length_map]
  refine run_while (fun n s cx wr => ∃ i : Nat, ∃ b : Rate × Int, n = rs.length - i ∧ i ≤ rs.length ∧ (rs.drop i).foldl (pstep qos t) b = priceF rs qos t ∧ s.fr 13 = .ro 3 (rs.map Rate.cells) c ∧ s.fr 14 = .int .i64 rs.length ∧ s.fr 15 = .int .i64 i ∧ s.fr 1 = .int .i64 qos ∧ s.fr 2 = .int .i64 t ∧ s.fr 8 = .np 3 0 ∧ s.fr 9 = .int .i64 b.2
    ∧ s.H 3 = some (.blk b.1.cells) ∧ 4 ≤ cx ∧ Bd s.H cx) rs.length ?_ ?_
  · refine ⟨0, (⟨0, 0, 0⟩, 12), by omega, by omega, rfl, ?_⟩
    simp only [S0, S1, S2, S3, S4, S5, isnilV, Nat.reduceLT, updH, LA.ev, initA, evs, convV, faV, nckV, extV, stV, ldV, cellsAt, HO.cells, HO.wr, rdCells, wrCells, AV.cells, fillV, partsV, binV, intBin, unV, mmL, mmV, lenV, capV, Nat.reduceAdd, Nat.reduceEqDiff, Nat.reduceLeDiff, Nat.reduceMul, Nat.reduceSub, Nat.le_refl, reduceCtorEq, reduceIte, resV, retV, Ex.done, noH, implies_true, imp_self, forall_const, Nat.not_lt_zero, Int.reduceLT, Int.reduceLE, Rate.cells]
    refine ⟨rfl, ?_⟩
    exact fun q hq => by simp only [upd_app]; (repeat rw [if_neg (by omega)]); exact Bd.no q (by omega)
  · rintro n ⟨fr, H⟩ cx wr ⟨i, b, rfl, hi, hf, h13, h14, h15, h1, h2, h8, h9, hH, hcx, hbd⟩
    dsimp only at *
    have a0 := hbd.at; have a1 := ne_of_old (n := 3) (cx := cx) (by omega)
    simp only [S0, S1, S2, S3, S4, S5, isnilV, Nat.reduceLT, updH, LA.ev, initA, evs, convV, faV, nckV, extV, stV, ldV, cellsAt, HO.cells, HO.wr, rdCells, wrCells, AV.cells, fillV, partsV, binV, intBin, unV, mmL, mmV, lenV, capV, Nat.reduceAdd, Nat.reduceEqDiff, Nat.reduceLeDiff, Nat.reduceMul, Nat.reduceSub, Nat.le_refl, reduceCtorEq, reduceIte, resV, retV, Ex.done, noH, implies_true, imp_self, forall_const, Nat.not_lt_zero, Int.reduceLT, Int.reduceLE, h13, h14, h15, h1, h2, h8, h9, hH]
    refine run_sel (fun h => ?_) (fun h => ?_)
    · have hlt : i < rs.length := by simpa using h
      obtain ⟨r, hr⟩ : ∃ r, rs[i] = r := ⟨_, rfl⟩
      have hf' : (rs.drop (i + 1)).foldl (pstep qos t) (pstep qos t b r) = priceF rs qos t := by
        rw [← hf, List.drop_eq_getElem_cons hlt, hr, List.foldl_cons]
      simp only [S0, S1, S2, S3, S4, S5, isnilV, Nat.reduceLT, updH, LA.ev, initA, evs, convV, faV, nckV, extV, stV, ldV, cellsAt, HO.cells, HO.wr, rdCells, wrCells, AV.cells, fillV, partsV, binV, intBin, unV, mmL, mmV, lenV, capV, Nat.reduceAdd, Nat.reduceEqDiff, Nat.reduceLeDiff, Nat.reduceMul, Nat.reduceSub, Nat.le_refl, reduceCtorEq, reduceIte, resV, retV, Ex.done, noH, implies_true, imp_self, forall_const, Nat.not_lt_zero, Int.reduceLT, Int.reduceLE, h, hlt, hr, Rate.cells, a0, a1, h13, h14, h15, h1, h2, h8, h9, hH]
      repeat' (first | refine run_gdt (fun h => ?_) (fun h => ?_) <;> simp only [S0, S1, S2, S3, S4, S5, isnilV, Nat.reduceLT, updH, LA.ev, initA, evs, convV, faV, nckV, extV, stV, ldV, cellsAt, HO.cells, HO.wr, rdCells, wrCells, AV.cells, fillV, partsV, binV, intBin, unV, mmL, mmV, lenV, capV, Nat.reduceAdd, Nat.reduceEqDiff, Nat.reduceLeDiff, Nat.reduceMul, Nat.reduceSub, Nat.le_refl, reduceCtorEq, reduceIte, resV, retV, Ex.done, noH, implies_true, imp_self, forall_const, Nat.not_lt_zero, Int.reduceLT, Int.reduceLE, h, hlt, hr, Rate.cells, a0, a1, h13, h14, h15, h1, h2, h8, h9, hH, h] | refine run_gdf (fun h => ?_) (fun h => ?_) <;> simp only [S0, S1, S2, S3, S4, S5, isnilV, Nat.reduceLT, updH, LA.ev, initA, evs, convV, faV, nckV, extV, stV, ldV, cellsAt, HO.cells, HO.wr, rdCells, wrCells, AV.cells, fillV, partsV, binV, intBin, unV, mmL, mmV, lenV, capV, Nat.reduceAdd, Nat.reduceEqDiff, Nat.reduceLeDiff, Nat.reduceMul, Nat.reduceSub, Nat.le_refl, reduceCtorEq, reduceIte, resV, retV, Ex.done, noH, implies_true, imp_self, forall_const, Nat.not_lt_zero, Int.reduceLT, Int.reduceLE, h, hlt, hr, Rate.cells, a0, a1, h13, h14, h15, h1, h2, h8, h9, hH, h] | refine run_sel (fun h => ?_) (fun h => ?_) <;> simp only [S0, S1, S2, S3, S4, S5, isnilV, Nat.reduceLT, updH, LA.ev, initA, evs, convV, faV, nckV, extV, stV, ldV, cellsAt, HO.cells, HO.wr, rdCells, wrCells, AV.cells, fillV, partsV, binV, intBin, unV, mmL, mmV, lenV, capV, Nat.reduceAdd, Nat.reduceEqDiff, Nat.reduceLeDiff, Nat.reduceMul, Nat.reduceSub, Nat.le_refl, reduceCtorEq, reduceIte, resV, retV, Ex.done, noH, implies_true, imp_self, forall_const, Nat.not_lt_zero, Int.reduceLT, Int.reduceLE, h, hlt, hr, Rate.cells, a0, a1, h13, h14, h15, h1, h2, h8, h9, hH, h])
      all_goals refine ⟨_, ?_, i + 1, pstep qos t b r, rfl, by omega, hf', ?_⟩
      all_goals first
        | omega
        | (refine ⟨by rw [wrap_succ (by omega)], ?_, ?_, ?_⟩
           · simp_all [pstep] <;> (rw [if_neg (by omega)] <;> simp_all)
           · simp_all [pstep] <;> (rw [if_neg (by omega)] <;> simp_all)
           · exact fun q hq => by simp only [upd_app]; (repeat rw [if_neg (by omega)]); exact hbd q (by omega))
    · simp only [S0, S1, S2, S3, S4, S5, isnilV, Nat.reduceLT, updH, LA.ev, initA, evs, convV, faV, nckV, extV, stV, ldV, cellsAt, HO.cells, HO.wr, rdCells, wrCells, AV.cells, fillV, partsV, binV, intBin, unV, mmL, mmV, lenV, capV, Nat.reduceAdd, Nat.reduceEqDiff, Nat.reduceLeDiff, Nat.reduceMul, Nat.reduceSub, Nat.le_refl, reduceCtorEq, reduceIte, resV, retV, Ex.done, noH, implies_true, imp_self, forall_const, Nat.not_lt_zero, Int.reduceLT, Int.reduceLE, h, h8, h9, hH, Rate.cells]
      rw [List.drop_eq_nil_of_le (by simpa using h)] at hf
      rw [← hf]; rfl

theorem call107 {rs : List Rate} {c : Bool} {qos t : Int} (hl : rs.length ≤ 1073741824) {strict : Bool} {base cx : Nat} {s : St} {d : Option Nat} {k : List KI} {wr : Bool} {Q : Ex → St → Nat → Bool → Prop} : Run base (.call strict 107 [.ro 3 (rs.map Rate.cells) c, .int .i64 qos, .int .i64 t] d :: k) s cx wr Q ↔
    Run base k ⟨updF s.fr d (.tup [.int .i64 (priceF rs qos t).1.price, .int .i64 (priceF rs qos t).2]), s.H⟩ cx wr Q := run_pure (pure107 rs c qos t hl) rfl (by simp only [List.all_cons, plain_rates]; rfl)

end Go.Proofs.YtfhflogbffibiaaGreat

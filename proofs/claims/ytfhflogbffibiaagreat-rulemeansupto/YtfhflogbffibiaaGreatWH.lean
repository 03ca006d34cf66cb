/-
  Walks: the reference's price.
-/
import Derived.Test.YtfhflogbffibiaaGreatWG
namespace Go.Proofs.YtfhflogbffibiaaGreat
open Go
set_option linter.unusedVariables false
set_option linter.unusedSimpArgs false

def MR (qos t : Int) (r : Rate) : Prop := r.qos = qos ∧ r.frm ≤ t
def BestR (rs : List Rate) (qos t : Int) (r : Rate) : Prop := MR qos t r ∧ ∀ x ∈ rs, MR qos t x → x.frm ≤ r.frm

theorem priceF_take (rs : List Rate) (qos t : Int) : ∀ n, n ≤ rs.length →
    let b := (rs.take n).foldl (pstep qos t) (⟨0, 0, 0⟩, 12)
    (b = (⟨0, 0, 0⟩, 12) ∧ ∀ (j : Nat) (hj : j < rs.length), j < n → ¬ MR qos t rs[j]) ∨
    (b.2 = 0 ∧ ∃ (i : Nat) (hi : i < rs.length), i < n ∧ b.1 = rs[i] ∧ MR qos t rs[i] ∧ ∀ (j : Nat) (hj : j < rs.length), j < n → MR qos t rs[j] → rs[j].frm ≤ rs[i].frm ∧ (i < j → rs[j].frm < rs[i].frm))
  | 0, _ => .inl ⟨rfl, fun j _ h => by omega⟩
  | n + 1, hn => by
    have ih := priceF_take rs qos t n (by omega)
    have e : rs.take (n + 1) = rs.take n ++ [rs[n]] := by rw [List.take_succ_eq_append_getElem (by omega)]
    simp only [e, List.foldl_append, List.foldl_cons, List.foldl_nil] at ih ⊢
    generalize (rs.take n).foldl (pstep qos t) (⟨0, 0, 0⟩, 12) = b at ih ⊢
    have split : ∀ j, j < n + 1 → j < n ∨ j = n := fun j h => by omega
    rcases ih with ⟨rfl, h⟩ | ⟨h0, i, hi, hin, hb, hM, h⟩
    · by_cases hm : MR qos t rs[n]
      · refine .inr ⟨by simp [pstep, hm.1, hm.2], n, by omega, by omega, by simp [pstep, hm.1, hm.2], hm, fun j hj hjn hM => ?_⟩
        rcases split j hjn with h' | rfl
        · exact absurd hM (h j hj h')
        · exact ⟨Int.le_refl _, fun h => by omega⟩
      · refine .inl ⟨?_, fun j hj hjn => ?_⟩
        · simp only [pstep]; rw [if_neg fun h => hm ⟨h.1, h.2.1⟩]
        · rcases split j hjn with h' | rfl
          · exact h j hj h'
          · exact hm
    · by_cases hm : MR qos t rs[n] ∧ rs[i].frm ≤ rs[n].frm
      · have e : pstep qos t b rs[n] = (rs[n], 0) := by
          simp only [pstep]; rw [if_pos ⟨hm.1.1, hm.1.2, .inr (by rw [hb]; exact hm.2)⟩]
        rw [e]
        refine .inr ⟨rfl, n, by omega, by omega, rfl, hm.1, fun j hj hjn hM => ?_⟩
        rcases split j hjn with h' | rfl
        · exact ⟨Int.le_trans (h j hj h' hM).1 hm.2, fun h => by omega⟩
        · exact ⟨Int.le_refl _, fun h => by omega⟩
      · have e : pstep qos t b rs[n] = b := by
          simp only [pstep]; rw [if_neg]
          rintro ⟨h1, h2, h3⟩
          refine hm ⟨⟨h1, h2⟩, ?_⟩
          rcases h3 with h3 | h3
          · exact absurd h0 h3
          · rw [hb] at h3; exact h3
        rw [e]
        refine .inr ⟨h0, i, hi, by omega, hb, hM, fun j hj hjn hMj => ?_⟩
        rcases split j hjn with h' | rfl
        · exact h j hj h' hMj
        · have : ¬ rs[i].frm ≤ rs[j].frm := fun hle => hm ⟨hMj, hle⟩
          exact ⟨by omega, fun _ => by omega⟩

theorem priceF_none {rs : List Rate} {qos t : Int} (h : ∀ r ∈ rs, ¬ BestR rs qos t r) : priceF rs qos t = (⟨0, 0, 0⟩, 12) := by
  have := priceF_take rs qos t rs.length (Nat.le_refl _)
  simp only [List.take_length] at this
  rcases this with ⟨h1, _⟩ | ⟨_, i, hi, _, _, hM, hA⟩
  · exact h1
  · refine absurd ⟨hM, fun x hx hMx => ?_⟩ (h rs[i] (List.getElem_mem hi))
    obtain ⟨j, hj, rfl⟩ := List.mem_iff_getElem.1 hx
    exact (hA j hj hj hMx).1

theorem priceF_some {rs : List Rate} {qos t : Int} {i : Nat} (hi : i < rs.length) (hB : BestR rs qos t rs[i]) (hl : ∀ (j : Nat) (hj : j < rs.length), i < j → ¬ BestR rs qos t rs[j]) : priceF rs qos t = (rs[i], 0) := by
  have := priceF_take rs qos t rs.length (Nat.le_refl _)
  simp only [List.take_length] at this
  rcases this with ⟨_, h2⟩ | ⟨h0, k, hk, _, hb, hM, hA⟩
  · exact absurd hB.1 (h2 i hi hi)
  · have hBk : BestR rs qos t rs[k] := ⟨hM, fun x hx hMx => by
      obtain ⟨j, hj, rfl⟩ := List.mem_iff_getElem.1 hx
      exact (hA j hj hj hMx).1⟩
    have : k = i := by
      rcases Nat.lt_trichotomy k i with h | h | h
      · have h1 := (hA i hi hi hB.1).2 h
        have h2 := hB.2 rs[k] (List.getElem_mem hk) hM
        omega
      · exact h
      · exact absurd hBk (hl k hk h)
    subst this
    exact Prod.ext hb h0

/-- ref10.Price -/
theorem pure64 (rs : List Rate) (c : Bool) (qos t : Int) (hl : rs.length ≤ 1073741824) : Pure 64 [.ro 3 (rs.map Rate.cells) c, .int .i64 qos, .int .i64 t] (.tup [.int .i64 (priceF rs qos t).1.price, .int .i64 (priceF rs qos t).2]) := by
  refine .of_plain rfl (fn_run g64 rfl (Nat.le_of_ble_eq_true rfl) ?_)
  dsimp only [k64, c64]
  simp only [S0, S1, S2, S3, S4, S5, isnilV, Nat.reduceLT, updH, LA.ev, initA, evs, convV, faV, nckV, extV, stV, ldV, cellsAt, HO.cells, HO.wr, rdCells, wrCells, AV.cells, fillV, partsV, binV, intBin, unV, mmL, mmV, lenV, capV, Nat.reduceAdd, Nat.reduceEqDiff, Nat.reduceLeDiff, Nat.reduceMul, Nat.reduceSub, Nat.le_refl, reduceCtorEq, reduceIte, resV, retV, Ex.done, noH, implies_true, imp_self, forall_const, Nat.not_lt_zero, Int.reduceLT, Int.reduceLE]
  refine run_while (fun n s cx wr => n ≤ rs.length ∧ (∀ (j : Nat) (hj : j < rs.length), n ≤ j → ¬ BestR rs qos t rs[j]) ∧ s.fr 0 = .ro 3 (rs.map Rate.cells) c ∧ s.fr 1 = .int .i64 qos ∧ s.fr 2 = .int .i64 t ∧ s.fr 8 = .int .i64 ((n : Int) - 1) ∧ Bd s.H cx) rs.length ?_ ?_
  · refine ⟨Nat.le_refl _, fun j hj h => by omega, ?_⟩
    simp only [S0, S1, S2, S3, S4, S5, isnilV, Nat.reduceLT, updH, LA.ev, initA, evs, convV, faV, nckV, extV, stV, ldV, cellsAt, HO.cells, HO.wr, rdCells, wrCells, AV.cells, fillV, partsV, binV, intBin, unV, mmL, mmV, lenV, capV, Nat.reduceAdd, Nat.reduceEqDiff, Nat.reduceLeDiff, Nat.reduceMul, Nat.reduceSub, Nat.le_refl, reduceCtorEq, reduceIte, resV, retV, Ex.done, noH, implies_true, imp_self, forall_const, Nat.not_lt_zero, Int.reduceLT, Int.reduceLE]
    exact ⟨by rw [wrap64_id (by omega) (by omega)], fun _ _ => rfl⟩
  · rintro n ⟨fr, H⟩ cx wr ⟨hn, hb, h0, h1, h2, h8, hbd⟩
    dsimp only at *
    simp only [S0, S1, S2, S3, S4, S5, isnilV, Nat.reduceLT, updH, LA.ev, initA, evs, convV, faV, nckV, extV, stV, ldV, cellsAt, HO.cells, HO.wr, rdCells, wrCells, AV.cells, fillV, partsV, binV, intBin, unV, mmL, mmV, lenV, capV, Nat.reduceAdd, Nat.reduceEqDiff, Nat.reduceLeDiff, Nat.reduceMul, Nat.reduceSub, Nat.le_refl, reduceCtorEq, reduceIte, resV, retV, Ex.done, noH, implies_true, imp_self, forall_const, Nat.not_lt_zero, Int.reduceLT, Int.reduceLE, h0, h1, h2, h8]
    refine run_sel (fun h => ?_) (fun h => ?_)
    · obtain ⟨i, rfl⟩ : ∃ i, n = i + 1 := ⟨n - 1, by simp at h; omega⟩
      have hlt : i < rs.length := by omega
      obtain ⟨r, hr⟩ : ∃ r, rs[i] = r := ⟨_, rfl⟩
      have h8' : fr 8 = .int .i64 i := by rw [h8]; congr 1; omega
      have a0 := hbd.at
      simp only [S0, S1, S2, S3, S4, S5, isnilV, Nat.reduceLT, updH, LA.ev, initA, evs, convV, faV, nckV, extV, stV, ldV, cellsAt, HO.cells, HO.wr, rdCells, wrCells, AV.cells, fillV, partsV, binV, intBin, unV, mmL, mmV, lenV, capV, Nat.reduceAdd, Nat.reduceEqDiff, Nat.reduceLeDiff, Nat.reduceMul, Nat.reduceSub, Nat.le_refl, reduceCtorEq, reduceIte, resV, retV, Ex.done, noH, implies_true, imp_self, forall_const, Nat.not_lt_zero, Int.reduceLT, Int.reduceLE, h, hlt, hr, Rate.cells, a0, h0, h1, h2, h8']
      have nbn := ne_of_old (n := cx + 6) (cx := cx + 7) (by omega)
      refine run_gdt (fun hq => ?_) (fun hq => ?_)
      all_goals
        simp only [S0, S1, S2, S3, S4, S5, isnilV, Nat.reduceLT, updH, LA.ev, initA, evs, convV, faV, nckV, extV, stV, ldV, cellsAt, HO.cells, HO.wr, rdCells, wrCells, AV.cells, fillV, partsV, binV, intBin, unV, mmL, mmV, lenV, capV, Nat.reduceAdd, Nat.reduceEqDiff, Nat.reduceLeDiff, Nat.reduceMul, Nat.reduceSub, Nat.le_refl, reduceCtorEq, reduceIte, resV, retV, Ex.done, noH, implies_true, imp_self, forall_const, Nat.not_lt_zero, Int.reduceLT, Int.reduceLE, hq, h, hlt, hr, Rate.cells, a0, h0, h1, h2, h8']
        refine run_while (fun m s cx' wr => ∃ (k : Nat) (ok : Bool), m = rs.length - k ∧ k ≤ rs.length ∧ (ok = true ↔ MR qos t r ∧ ∀ (j : Nat) (hj : j < rs.length), j < k → MR qos t rs[j] → rs[j].frm ≤ r.frm) ∧
          s.fr 0 = .ro 3 (rs.map Rate.cells) c ∧ s.fr 1 = .int .i64 qos ∧ s.fr 2 = .int .i64 t ∧ s.fr 8 = .int .i64 i ∧ s.fr 9 = .np (cx + 6) 0 ∧ s.fr 10 = .bool ok ∧ s.fr 11 = .int .i64 k ∧ s.H (cx + 6) = some (.blk r.cells) ∧ cx + 7 ≤ cx' ∧ Bd s.H cx') rs.length ?_ ?_
      all_goals first
        | refine ⟨0, decide (r.frm ≤ t), by omega, by omega, ?_, ?_⟩
          · simp [MR]; intro _; simpa using hq
          · simp only [S0, S1, S2, S3, S4, S5, isnilV, Nat.reduceLT, updH, LA.ev, initA, evs, convV, faV, nckV, extV, stV, ldV, cellsAt, HO.cells, HO.wr, rdCells, wrCells, AV.cells, fillV, partsV, binV, intBin, unV, mmL, mmV, lenV, capV, Nat.reduceAdd, Nat.reduceEqDiff, Nat.reduceLeDiff, Nat.reduceMul, Nat.reduceSub, Nat.le_refl, reduceCtorEq, reduceIte, resV, retV, Ex.done, noH, implies_true, imp_self, forall_const, Nat.not_lt_zero, Int.reduceLT, Int.reduceLE, h0, h1, h2, h8', Rate.cells]
            refine ⟨rfl, by omega, ?_⟩
            exact fun q hq => by simp only [upd_app]; (repeat rw [if_neg (by omega)]); exact hbd q (by omega)
        | refine ⟨0, false, by omega, by omega, ?_, ?_⟩
          · simp [MR]; intro hx; exact absurd hx (by simpa using hq)
          · simp only [S0, S1, S2, S3, S4, S5, isnilV, Nat.reduceLT, updH, LA.ev, initA, evs, convV, faV, nckV, extV, stV, ldV, cellsAt, HO.cells, HO.wr, rdCells, wrCells, AV.cells, fillV, partsV, binV, intBin, unV, mmL, mmV, lenV, capV, Nat.reduceAdd, Nat.reduceEqDiff, Nat.reduceLeDiff, Nat.reduceMul, Nat.reduceSub, Nat.le_refl, reduceCtorEq, reduceIte, resV, retV, Ex.done, noH, implies_true, imp_self, forall_const, Nat.not_lt_zero, Int.reduceLT, Int.reduceLE, h0, h1, h2, h8', Rate.cells]
            refine ⟨rfl, by omega, ?_⟩
            exact fun q hq => by simp only [upd_app]; (repeat rw [if_neg (by omega)]); exact hbd q (by omega)
        | skip
      all_goals
        rintro m ⟨fr2, H2⟩ cx2 wr2 ⟨k, ok, rfl, hk, hok, g0, g1, g2, g8, g9, g10, g11, gH, gcx, gbd⟩
        dsimp only at *
        simp only [S0, S1, S2, S3, S4, S5, isnilV, Nat.reduceLT, updH, LA.ev, initA, evs, convV, faV, nckV, extV, stV, ldV, cellsAt, HO.cells, HO.wr, rdCells, wrCells, AV.cells, fillV, partsV, binV, intBin, unV, mmL, mmV, lenV, capV, Nat.reduceAdd, Nat.reduceEqDiff, Nat.reduceLeDiff, Nat.reduceMul, Nat.reduceSub, Nat.le_refl, reduceCtorEq, reduceIte, resV, retV, Ex.done, noH, implies_true, imp_self, forall_const, Nat.not_lt_zero, Int.reduceLT, Int.reduceLE, g0, g1, g2, g8, g9, g10, g11]
        have old := ne_of_old (n := cx + 6) (cx := cx2) (by omega)
        refine run_gdt (fun hkl => ?_) (fun hkl => ?_)
        · have hkl' : k < rs.length := by simpa using hkl
          simp only [S0, S1, S2, S3, S4, S5, isnilV, Nat.reduceLT, updH, LA.ev, initA, evs, convV, faV, nckV, extV, stV, ldV, cellsAt, HO.cells, HO.wr, rdCells, wrCells, AV.cells, fillV, partsV, binV, intBin, unV, mmL, mmV, lenV, capV, Nat.reduceAdd, Nat.reduceEqDiff, Nat.reduceLeDiff, Nat.reduceMul, Nat.reduceSub, Nat.le_refl, reduceCtorEq, reduceIte, resV, retV, Ex.done, noH, implies_true, imp_self, forall_const, Nat.not_lt_zero, Int.reduceLT, Int.reduceLE, hkl, g0, g1, g2, g8, g9, g10, g11]
          refine run_sel (fun ht => ?_) (fun ht => ?_)
          · subst ht
            obtain ⟨x, hx⟩ : ∃ x, rs[k] = x := ⟨_, rfl⟩
            simp only [S0, S1, S2, S3, S4, S5, isnilV, Nat.reduceLT, updH, LA.ev, initA, evs, convV, faV, nckV, extV, stV, ldV, cellsAt, HO.cells, HO.wr, rdCells, wrCells, AV.cells, fillV, partsV, binV, intBin, unV, mmL, mmV, lenV, capV, Nat.reduceAdd, Nat.reduceEqDiff, Nat.reduceLeDiff, Nat.reduceMul, Nat.reduceSub, Nat.le_refl, reduceCtorEq, reduceIte, resV, retV, Ex.done, noH, implies_true, imp_self, forall_const, Nat.not_lt_zero, Int.reduceLT, Int.reduceLE, hkl', hx, Rate.cells, g0, g1, g2, g8, g9, g10, g11, gH]
            have hM := (hok.1 rfl).1
            have hlow : cx + 6 < cx2 + 7 := by omega
            repeat' (first | refine run_gdt (fun h => ?_) (fun h => ?_) <;> simp only [S0, S1, S2, S3, S4, S5, isnilV, Nat.reduceLT, updH, LA.ev, initA, evs, convV, faV, nckV, extV, stV, ldV, cellsAt, HO.cells, HO.wr, rdCells, wrCells, AV.cells, fillV, partsV, binV, intBin, unV, mmL, mmV, lenV, capV, Nat.reduceAdd, Nat.reduceEqDiff, Nat.reduceLeDiff, Nat.reduceMul, Nat.reduceSub, Nat.le_refl, reduceCtorEq, reduceIte, resV, retV, Ex.done, noH, implies_true, imp_self, forall_const, Nat.not_lt_zero, Int.reduceLT, Int.reduceLE, hkl', hx, Rate.cells, g0, g1, g2, g8, g9, g10, g11, gH, hlow, h] | refine run_gdf (fun h => ?_) (fun h => ?_) <;> simp only [S0, S1, S2, S3, S4, S5, isnilV, Nat.reduceLT, updH, LA.ev, initA, evs, convV, faV, nckV, extV, stV, ldV, cellsAt, HO.cells, HO.wr, rdCells, wrCells, AV.cells, fillV, partsV, binV, intBin, unV, mmL, mmV, lenV, capV, Nat.reduceAdd, Nat.reduceEqDiff, Nat.reduceLeDiff, Nat.reduceMul, Nat.reduceSub, Nat.le_refl, reduceCtorEq, reduceIte, resV, retV, Ex.done, noH, implies_true, imp_self, forall_const, Nat.not_lt_zero, Int.reduceLT, Int.reduceLE, hkl', hx, Rate.cells, g0, g1, g2, g8, g9, g10, g11, gH, hlow, h] | refine run_sel (fun h => ?_) (fun h => ?_) <;> simp only [S0, S1, S2, S3, S4, S5, isnilV, Nat.reduceLT, updH, LA.ev, initA, evs, convV, faV, nckV, extV, stV, ldV, cellsAt, HO.cells, HO.wr, rdCells, wrCells, AV.cells, fillV, partsV, binV, intBin, unV, mmL, mmV, lenV, capV, Nat.reduceAdd, Nat.reduceEqDiff, Nat.reduceLeDiff, Nat.reduceMul, Nat.reduceSub, Nat.le_refl, reduceCtorEq, reduceIte, resV, retV, Ex.done, noH, implies_true, imp_self, forall_const, Nat.not_lt_zero, Int.reduceLT, Int.reduceLE, hkl', hx, Rate.cells, g0, g1, g2, g8, g9, g10, g11, gH, hlow, h])
            all_goals refine ⟨rs.length - (k + 1), by omega, k + 1, ?_⟩
            all_goals first
              | (refine ⟨true, rfl, by omega, ⟨fun _ => ⟨hM, fun j hj hjk hMj => ?_⟩, fun _ => rfl⟩, rfl, by rw [wrap_succ (by omega)], by omega, gbd.le (by omega)⟩
                 by_cases e : j = k
                 · subst e; rw [hx] at hMj ⊢; simp_all [MR] <;> omega
                 · exact (hok.1 rfl).2 j hj (by omega) hMj)
              | (refine ⟨false, rfl, by omega, ⟨fun h => (by cases h), fun h => ?_⟩, rfl, by rw [wrap_succ (by omega)], by omega, gbd.le (by omega)⟩
                 have := h.2 k hkl' (by omega) (by rw [hx]; simp_all [MR])
                 rw [hx] at this; simp_all <;> omega)
          · simp only [S0, S1, S2, S3, S4, S5, isnilV, Nat.reduceLT, updH, LA.ev, initA, evs, convV, faV, nckV, extV, stV, ldV, cellsAt, HO.cells, HO.wr, rdCells, wrCells, AV.cells, fillV, partsV, binV, intBin, unV, mmL, mmV, lenV, capV, Nat.reduceAdd, Nat.reduceEqDiff, Nat.reduceLeDiff, Nat.reduceMul, Nat.reduceSub, Nat.le_refl, reduceCtorEq, reduceIte, resV, retV, Ex.done, noH, implies_true, imp_self, forall_const, Nat.not_lt_zero, Int.reduceLT, Int.reduceLE, ht, g0, g1, g2, g8, g9, g10, g11]
            refine ⟨i, by omega, by omega, fun j hj hij => ?_, ?_⟩
            · rcases Nat.lt_or_ge i j with hlt' | hge
              · exact hb j hj hlt'
              · have : j = i := by omega
                subst this
                rw [hr]
                intro hB
                rw [hok.2 ⟨hB.1, fun j hj _ hMj => hB.2 _ (List.getElem_mem hj) hMj⟩] at ht
                cases ht
            · exact ⟨by rw [wrap64_id (by omega) (by omega)], gbd.le (by omega)⟩
        · simp only [S0, S1, S2, S3, S4, S5, isnilV, Nat.reduceLT, updH, LA.ev, initA, evs, convV, faV, nckV, extV, stV, ldV, cellsAt, HO.cells, HO.wr, rdCells, wrCells, AV.cells, fillV, partsV, binV, intBin, unV, mmL, mmV, lenV, capV, Nat.reduceAdd, Nat.reduceEqDiff, Nat.reduceLeDiff, Nat.reduceMul, Nat.reduceSub, Nat.le_refl, reduceCtorEq, reduceIte, resV, retV, Ex.done, noH, implies_true, imp_self, forall_const, Nat.not_lt_zero, Int.reduceLT, Int.reduceLE, hkl, g0, g1, g2, g8, g9, g10, g11]
          refine run_sel (fun ht => ?_) (fun ht => ?_)
          · simp only [S0, S1, S2, S3, S4, S5, isnilV, Nat.reduceLT, updH, LA.ev, initA, evs, convV, faV, nckV, extV, stV, ldV, cellsAt, HO.cells, HO.wr, rdCells, wrCells, AV.cells, fillV, partsV, binV, intBin, unV, mmL, mmV, lenV, capV, Nat.reduceAdd, Nat.reduceEqDiff, Nat.reduceLeDiff, Nat.reduceMul, Nat.reduceSub, Nat.le_refl, reduceCtorEq, reduceIte, resV, retV, Ex.done, noH, implies_true, imp_self, forall_const, Nat.not_lt_zero, Int.reduceLT, Int.reduceLE, ht, g0, g1, g2, g8, g9, g10, g11, gH, Rate.cells]
            have hB : BestR rs qos t rs[i] := by
              rw [hr]
              obtain ⟨q1, q2⟩ := hok.1 ht
              refine ⟨q1, fun y hy hMy => ?_⟩
              obtain ⟨j, hj, rfl⟩ := List.mem_iff_getElem.1 hy
              exact q2 j hj (by simp at hkl; omega) hMy
            rw [priceF_some hlt hB fun j hj hij => hb j hj hij, hr]
          · simp only [S0, S1, S2, S3, S4, S5, isnilV, Nat.reduceLT, updH, LA.ev, initA, evs, convV, faV, nckV, extV, stV, ldV, cellsAt, HO.cells, HO.wr, rdCells, wrCells, AV.cells, fillV, partsV, binV, intBin, unV, mmL, mmV, lenV, capV, Nat.reduceAdd, Nat.reduceEqDiff, Nat.reduceLeDiff, Nat.reduceMul, Nat.reduceSub, Nat.le_refl, reduceCtorEq, reduceIte, resV, retV, Ex.done, noH, implies_true, imp_self, forall_const, Nat.not_lt_zero, Int.reduceLT, Int.reduceLE, ht, g0, g1, g2, g8, g9, g10, g11]
            refine ⟨i, by omega, by omega, fun j hj hij => ?_, ?_⟩
            · rcases Nat.lt_or_ge i j with hlt' | hge
              · exact hb j hj hlt'
              · have : j = i := by omega
                subst this
                rw [hr]
                intro hB
                rw [hok.2 ⟨hB.1, fun j hj _ hMj => hB.2 _ (List.getElem_mem hj) hMj⟩] at ht
                cases ht
            · exact ⟨by rw [wrap64_id (by omega) (by omega)], gbd.le (by omega)⟩
    · simp only [S0, S1, S2, S3, S4, S5, isnilV, Nat.reduceLT, updH, LA.ev, initA, evs, convV, faV, nckV, extV, stV, ldV, cellsAt, HO.cells, HO.wr, rdCells, wrCells, AV.cells, fillV, partsV, binV, intBin, unV, mmL, mmV, lenV, capV, Nat.reduceAdd, Nat.reduceEqDiff, Nat.reduceLeDiff, Nat.reduceMul, Nat.reduceSub, Nat.le_refl, reduceCtorEq, reduceIte, resV, retV, Ex.done, noH, implies_true, imp_self, forall_const, Nat.not_lt_zero, Int.reduceLT, Int.reduceLE, h]
      have : n = 0 := by simp at h; omega
      subst this
      rw [priceF_none]
      intro r hr
      obtain ⟨j, hj, rfl⟩ := List.mem_iff_getElem.1 hr
      exact hb j hj (by omega)

end Go.Proofs.YtfhflogbffibiaaGreat

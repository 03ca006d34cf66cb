/-
  RuleMeans, up to: the law answers true at every input of the bulk that the row asks.
-/
import Derived.Test.YtfhflogbffibiaaGreatXB
import Derived.Test.YtfhflogbffibiaaGreatWL
import Derived.WalkKit
import Derived.ProofKit
import Derived.OpenShut
import Derived.JoinedCond
namespace Go.Proofs.YtfhflogbffibiaaGreat.ruleMeansUpto
open Go Go.ChangeShapes Go.WideShapes Go.ChangeAt Go.RowKit
set_option linter.unusedSimpArgs false
set_option linter.unusedVariables false

theorem own : ownKnob Tryz.prog.godebug = none := by kernel_rfl
theorem laid : laidOutB Tryz.prog = true := by kernel_rfl
theorem rows : ∀ t ∈ [48, 28, 3, 50], Tryz.prog.readableRec t = true ∧ t < Tryz.prog.types.size := by
  have h : ([48, 28, 3, 50].all fun t => Tryz.prog.readableRec t && decide (t < Tryz.prog.types.size)) = true := by kernel_rfl
  intro t ht
  have := List.all_eq_true.1 h t ht
  simpa using this

/-- A fact that nobody looks behind. -/
structure Wrap (p : Prop) : Prop where
  out : p

theorem vals4 {P : Program} {W : World} {base : Nat} {t0 t1 t2 t3 : TypeId} {v0 v1 v2 v3 : Value} (h : ∀ (j : Nat) t v, #[t0, t1, t2, t3][j]? = some t → #[v0, v1, v2, v3][j]? = some v → Value.okWide P W .any base t v) :
    Wrap (Value.okWide P W .any base t0 v0) ∧ Wrap (Value.okWide P W .any base t1 v1) ∧ Wrap (Value.okWide P W .any base t2 v2) ∧ Wrap (Value.okWide P W .any base t3 v3) :=
  ⟨⟨h 0 t0 v0 rfl rfl⟩, ⟨h 1 t1 v1 rfl rfl⟩, ⟨h 2 t2 v2 rfl rfl⟩, ⟨h 3 t3 v3 rfl rfl⟩⟩

section
variable {H : Type} {enc : TypeId × Value → H} {w : World}
theorem arg_rd {P : Program} {r : Reach} {base : Nat} {t : TypeId} {fs : Array Field} {α : Type} {f : α → List AV} {I : α → Prop} (h : Rd enc P w t f I) (ht : P.underlying t = some (.struct fs)) {v : Value} {d : DataW H} {p : List MemPlace}
    (hv : Wrap (Value.okWide P w r base t v)) (hd : DataW.Trod enc P w 0 (fun _ => true) true t v d p) (hb : Rows.uptoBulk d ≤ 1048576) : ∃ a, Rep (roOf w) (.agg (f a)) v ∧ I a := rd_arg h ht hv.out hd hb
theorem arg_int {P : Program} {r : Reach} {base : Nat} {t : TypeId} {k : IntKind} (ht : P.underlying t = some (.int k)) {v : Value} {d : DataW H} {p : List MemPlace}
    (hv : Wrap (Value.okWide P w r base t v)) (hd : DataW.Trod enc P w 0 (fun _ => true) true t v d p) : ∃ n, v = .int k n ∧ d = .lit (.int k n) ∧ p = [] ∧ (Lit.int k n).wf = true := open_int ht hv.out hd
end

theorem post_bool {H : Type} {enc : TypeId × Value → H} {P : Program} {f : Func} {s : ChangeSpec} {apart fresh handsOn again : Bool} {W W' : World} {args : Array Value} {t : TypeId} {b : Bool} {ds gs : List (DataW H)} {before pa pv : List MemPlace}
    (hW : DataW.Whole enc P f.params.toList s.vars apart W args.toList ds gs before) (hr : f.resultTypes = #[t]) (ht : P.underlying t = some .bool) (hs : (s.fn H (ds ++ gs)).results = [.lit (.bool b)])
    (hargs : ∀ sp : Nat → Bool, (∀ p ∈ before, sp p.block = true) → DataW.TrodAll enc P W' 0 sp true f.params.toList args.toList (s.fn H (ds ++ gs)).args pa)
    (hvars : ∀ sp : Nat → Bool, (∀ p ∈ before, sp p.block = true) → DataW.TrodVars enc P W' sp s.vars (s.fn H (ds ++ gs)).vars pv)
    (hps : before = pa ++ pv) (hb : RowKit.Below W.heap.size W W') : s.post enc P f apart fresh handsOn again W args (.bool b) W' :=
  post_of_below hW (fun _ _ _ => by rw [hr, hs]; exact trodAll_cons_mk (shut_bool ht _) trodAll_mk0) hargs hvars hps hb (ok_one hr rfl (okWide_bool_mk ht b))

theorem contract (H : Type) (enc : TypeId × Value → H) (W : World) (base : Nat) (args : Array Value) (ds gs : List (DataW H)) (before : List MemPlace)
    (hval : ∀ (j : Nat) t v, Tryz.f5.params[j]? = some t → args[j]? = some v → Value.okWide Tryz.prog W .any base t v)
    (hW : DataW.Whole enc Tryz.prog Tryz.f5.params.toList Rows.ruleMeansSpec.vars false W args.toList ds gs before) (hk : Rows.uptoSmall H (ds ++ gs) = true) :
    Calls Tryz.prog 5 args W fun e W' => ∃ v, e = .returned v ∧ Rows.ruleMeansSpec.post enc Tryz.prog Tryz.f5 false true false false W args v W' := by
  have hW' := hW
  obtain ⟨p, q, hA0, hV, rfl, hfz, hnd⟩ := hW
  have hA : DataW.TrodAll enc Tryz.prog W 0 (fun _ => true) true Tryz.f5.params.toList args.toList ds p := hA0
  have hlt : ∀ x ∈ p ++ q, x.block < W.heap.size := fun x hx => hW'.lt x hx
  rw [Tryz.params5] at hA hval
  have hA1 := hA
  obtain ⟨v0, vs0, d0, ds0, p0, q0, hargs, rfl, rfl, h0, r0⟩ := trodAll_cons hA
  obtain ⟨v1, vs1, d1, ds1, p1, q1, rfl, rfl, rfl, h1, r1⟩ := trodAll_cons r0
  obtain ⟨v2, vs2, d2, ds2, p2, q2, rfl, rfl, rfl, h2, r2⟩ := trodAll_cons r1
  obtain ⟨v3, vs3, d3, ds3, p3, q3, rfl, rfl, rfl, h3, r3⟩ := trodAll_cons r2
  obtain ⟨rfl, rfl, rfl⟩ := trodAll_nil r3
  obtain rfl : args = #[v0, v1, v2, v3] := Array.toList_inj.1 hargs
  obtain ⟨rfl, rfl⟩ := trodVars_none hV
  simp only [Rows.uptoSmall, decide_eq_true_eq, List.append_nil, Rows.uptoBulkAll] at hk
  obtain ⟨k0, k1, k2, k3⟩ := vals4 @hval
  obtain ⟨c, hc, ic⟩ := arg_rd rdCfg Tryz.underlying48 k0 h0 (by omega)
  obtain ⟨s, hs, is⟩ := arg_rd rdState Tryz.underlying28 k1 h1 (by omega)
  obtain ⟨now, rfl, rfl, rfl, hn⟩ := arg_int Tryz.underlying3 k2 h2
  obtain ⟨x, hx, ix⟩ := arg_rd rdCmd Tryz.underlying50 k3 h3 (by omega)
  have hargs : ArgsRep (roOf W) [.agg c.cells, .agg s.cells, .int .i64 now, .agg x.cells] [v0, v1, .int .i64 now, v3] := by
    refine ⟨rfl, fun i a v ha hv => ?_⟩
    match i with
    | 0 => simp at ha hv; subst ha; subst hv; exact hc
    | 1 => simp at ha hv; subst ha; subst hv; exact hs
    | 2 => simp at ha hv; subst ha; subst hv; exact .int _ _
    | 3 => simp at ha hv; subst ha; subst hv; exact hx
    | i + 4 => simp at ha
  have big : (1048576 : Nat) ≤ 1073741824 := Nat.le_of_ble_eq_true rfl
  refine (law_calls (fn5 c s now x (Nat.le_trans is.2.2.2.2.2.1.1 big) (Nat.le_trans is.2.2.2.2.2.2.1.1 big) ix.2.2.2.1.1) hargs).mono fun e W' ⟨he, hb⟩ => ?_
  subst he
  refine ⟨_, rfl, post_bool (t := 4) (b := true) (pa := p0 ++ (p1 ++ ([] ++ (p3 ++ [])))) (pv := []) hW' (by kernel_rfl) Tryz.underlying4 rfl (fun sp hsp => ?_) (fun _ _ => rfl) (by simp) hb⟩
  rw [Tryz.params5]
  exact trodAll_stays laid rows hA1 (fun y hy => hb.same (hlt y (List.mem_append_left _ hy))) (fun y hy => hsp y (List.mem_append_left _ hy))

set_option maxRecDepth 100000 in
theorem lifted (os : Os) (started : os.Started) (H : Type) (enc : TypeId × Value → H) (F : Stop.Interp) :
    ReturnsInHanded {} Tryz.checked os 5 .any ((Rows.OpenSpec.upto Rows.ruleMeansSpec).pre6 enc Tryz.prog Tryz.f5 Rows.ruleMeansUptoRow.domain false) (((Rows.OpenSpec.upto Rows.ruleMeansSpec).at F).post enc Tryz.prog Tryz.f5 false true false false) := by
  refine returnsInHanded_of_cond (C := Tryz.checked) (s := Rows.OpenSpec.upto Rows.ruleMeansSpec) (k := Rows.uptoSmall) rfl own started (by kernel_rfl) Tryz.func5
    (OpenSpec.witness (enc := enc) (C := Tryz.checked) (s := Rows.OpenSpec.upto Rows.ruleMeansSpec) (k := Rows.uptoSmall) rfl false
      ⟨#[], #[.agg #[.int .i64 0, .int .i64 0, .int .i64 0, .int .i64 0], .agg #[.int .i64 0, .int .i64 0, .int .i64 0, .slice none 0 0, .slice none 0 0, .slice none 0 0, .slice none 0 0, .slice none 0 0], .int .i64 0, .agg #[.int .i64 0, .string ⟨#[]⟩, .string ⟨#[]⟩, .slice none 0 0]], []⟩ 8 (by kernel_rfl) (by kernel_rfl) (by kernel_rfl)
      (x := ([.agg [.lit (.int .i64 0), .lit (.int .i64 0), .lit (.int .i64 0), .lit (.int .i64 0)], .agg [.lit (.int .i64 0), .lit (.int .i64 0), .lit (.int .i64 0), .nil, .nil, .nil, .nil, .nil], .lit (.int .i64 0), .agg [.lit (.int .i64 0), .lit (.string []), .lit (.string []), .nil]], [], [])) (by kernel_rfl) rfl (by kernel_rfl)) ?_
  intro W base args ds gs before hval hW _ hk _
  exact contract H enc W base args ds gs before @hval hW hk

theorem over : Rows.ruleMeansUptoRow.holds Tryz.pinned (Rows.OpenSpec.upto Rows.ruleMeansSpec) :=
  OpenClaim.holds_of_cond 5 Tryz.f5 rfl rfl rfl rfl rfl rfl rfl ⟨rfl, rfl, rfl, rfl, rfl⟩ rfl rfl rfl rfl rfl (by kernel_rfl) Tryz.func5 (by kernel_rfl)
    (of_decide_eq_true (by kernel_rfl)) (by unfold Func.isWrapper; first | (rw [if_pos (by decide +kernel)]; kernel_rfl) | (rw [if_neg (by decide +kernel)]; exact ⟨rfl, rfl⟩))
    (fun os started H enc _ F => lifted os started H enc F)

theorem proved : Rows.RuleMeansUptoSaid := over

end Go.Proofs.YtfhflogbffibiaaGreat.ruleMeansUpto
#print axioms Go.Proofs.YtfhflogbffibiaaGreat.ruleMeansUpto.proved

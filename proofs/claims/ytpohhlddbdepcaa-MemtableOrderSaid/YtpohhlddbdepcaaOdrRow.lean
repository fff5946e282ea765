/-
  MemtableOrder answers true for every input, and its arguments read behind the call as before it; no condition.
-/
import Derived.Test.YtpohhlddbdepcaaRow
import Derived.Test.YtpohhlddbdepcaaOdr
namespace Go.Proofs.Ytpohhlddbdepcaa.order
open Go.ChangeShapes Go.WideShapes Go.ChangeAt Go.RowKit

theorem cellsHs : Try.prog.cellsOf 50 = 2 := by kernel_rfl
theorem cellsIs : Try.prog.cellsOf 22 = 1 := by kernel_rfl

theorem sized_part {H : Type} {n : Nat} {t e : TypeId} {parts : List (DataW H)} (hu : Try.prog.underlying t = some (.array n e)) (h : Sized Try.prog t (.agg parts)) {d : DataW H} (hd : d ∈ parts) : Sized Try.prog e d := by
  intro m hm
  refine h m ?_
  simp only [DataW.weights, hu]
  clear h
  induction parts with
  | nil => cases hd
  | cons x xs ih =>
    simp only [DataW.weightsAll]
    rcases List.mem_cons.1 hd with rfl | h
    · exact List.mem_append_left _ hm
    · exact List.mem_append_right _ (ih h)

theorem contract (H : Type) (enc : TypeId × Value → H) (W : World) (base : Nat) (args : Array Value) (ds gs : List (DataW H)) (before : List MemPlace)
    (hval : ∀ (j : Nat) t v, Try.f4.params[j]? = some t → args[j]? = some v → Value.okWide Try.prog W .any base t v)
    (hW : DataW.Whole enc Try.prog Try.f4.params.toList Rows.memtableOrderSpec.vars false W args.toList ds gs before)
    (hsz : (DataW.weightsEach Try.prog (Try.f4.params.toList ++ Rows.memtableOrderSpec.plain.varTypes Try.prog) (ds ++ gs)).all (· ≤ reachBytes) = true) :
    Calls Try.prog 4 args W fun e W' => ∃ v, e = .returned v ∧ Rows.memtableOrderSpec.post enc Try.prog Try.f4 false true false false W args v W' := by
  have hW' := hW
  obtain ⟨p, q, hA0, hV, rfl, hfz, hnd⟩ := hW
  have hA : DataW.TrodAll enc Try.prog W 0 (fun _ => true) true Try.f4.params.toList args.toList ds p := hA0
  rw [Try.params4] at hA hval hsz
  obtain ⟨v0, v1, v2, d0, d1, d2, p0, p1, p2, rfl, rfl, rfl, h0, h1, h2⟩ := trodAll_three hA
  obtain ⟨rfl, rfl⟩ := trodVars_none hV
  have hlt : ∀ x ∈ p0 ++ p1 ++ p2, x.block < W.heap.size := fun x hx => by
    have := hW'.lt x (by simpa using hx)
    simpa using this
  obtain ⟨cs, rfl, hcs⟩ := okWide_array Try.underlying50 (hval 0 50 v0 rfl rfl)
  rw [cellsHs] at hcs
  obtain ⟨a1, n1, c1, rfl⟩ := okWide_slice Try.underlying39 (hval 1 39 v1 rfl rfl)
  obtain ⟨z, rfl, rfl, rfl, wz⟩ := open_int Try.underlying3 (hval 2 3 v2 rfl rfl) h2
  have h0k := h0
  have h1k := h1
  obtain ⟨fu0, g0⟩ := h0
  obtain ⟨fu1, g1⟩ := h1
  obtain ⟨xs, m, rfl, e0, -, hxl, hx⟩ := DataW.trod_array Try.underlying50 g0
  obtain ⟨l⟩ := cs
  simp only [Prod.mk.injEq] at e0
  obtain ⟨rfl, rfl⟩ := e0
  match l, hcs, xs, hxl with
  | [k0, k1], _, [x0, x1], _ =>
    have s0 := sized_arg hsz (j := 0) rfl rfl
    have f0 : DataW.trod enc Try.prog W 0 (fun _ => true) true m 22 (([k0, k1].drop (0 * Try.prog.cellsOf 22)).take (Try.prog.cellsOf 22)) = some x0 := hx 0 (by omega)
    have f1 : DataW.trod enc Try.prog W 0 (fun _ => true) true m 22 (([k0, k1].drop (1 * Try.prog.cellsOf 22)).take (Try.prog.cellsOf 22)) = some x1 := hx 1 (by omega)
    rw [cellsIs] at f0 f1
    have f0' : DataW.trod enc Try.prog W 0 (fun _ => true) true m 22 [k0] = some x0 := f0
    have f1' : DataW.trod enc Try.prog W 0 (fun _ => true) true m 22 [k1] = some x1 := f1
    obtain ⟨hs0, hH0, hl0⟩ := open_heights f0' (sized_part Try.underlying50 s0 (by simp))
    obtain ⟨hs1, hH1, hl1⟩ := open_heights f1' (sized_part Try.underlying50 s0 (by simp))
    obtain ⟨es, hE, hbig, hmax⟩ := open_entries (y := (d1, p1)) g1 (sized_arg hsz (j := 1) rfl rfl)
    have hr := reachBytes_lt
    have hwz : -9223372036854775808 ≤ z ∧ z ≤ 9223372036854775807 := by
      simpa [Lit.wf, IntKind.min, IntKind.max, IntKind.signed, IntKind.bits] using wz
    clear hA0 g0 g1 f0 f1 f0' f1' hx
    refine (law_order hH0 hH1 hE (by omega) (by omega) hbig hmax hwz.1 hwz.2).mono fun e W' ⟨he, hb⟩ => ?_
    subst he
    have harg := trodAll_mk3 (Below.trod Try_laidOut (by kernel_rfl) (of_decide_eq_true (by kernel_rfl)) h0k hb (fun x hx => hlt x (by simp only [List.mem_append]; exact .inl (.inl hx)))) (Below.trod Try_laidOut (by kernel_rfl) (of_decide_eq_true (by kernel_rfl)) h1k hb (fun x hx => hlt x (by simp only [List.mem_append]; exact .inl (.inr hx)))) (shut_int (enc := enc) (w := W') (base := 0) (spare := fun b => decide (b < W.heap.size)) (held := true) Try.underlying3 wz)
    exact ⟨_, rfl, post_of_below (pv := []) hW' (fun _ _ _ => (trodAll_cons_mk (shut_bool Try.underlying4 _) trodAll_mk0)) harg rfl hb rfl rfl rfl⟩

set_option maxRecDepth 100000 in
theorem lifted (os : Os) (started : os.Started) (H : Type) (enc : TypeId × Value → H) :
    ReturnsInHanded {} Try.checked os 4 .any (Rows.memtableOrderSpec.pre6 enc Try.prog Try.f4 Rows.memtableOrderRow.domain false) (Rows.memtableOrderSpec.post enc Try.prog Try.f4 false true false false) := by
  refine returnsInHanded_of_change_sized (C := Try.checked) Try_own started (by kernel_rfl) Try.func4
    (ChangeSpec.witness6 (enc := enc) (C := Try.checked) false ⟨#[], #[.agg #[.slice none 0 0, .slice none 0 0], .slice none 0 0, .int .i64 0], []⟩ 8 (by kernel_rfl) (by kernel_rfl) (by kernel_rfl) (by kernel_rfl)) ?_
  intro W base args ds gs before hval hW _ hsz _
  exact contract H enc W base args ds gs before hval hW hsz

theorem proved : Rows.MemtableOrderSaid :=
  OpenClaim.holds_of_wide 4 Try.f4 rfl rfl rfl rfl rfl rfl rfl ⟨rfl, rfl, rfl, rfl, rfl⟩ rfl rfl rfl rfl rfl (by kernel_rfl) Try.func4 (by kernel_rfl)
    (of_decide_eq_true (by kernel_rfl)) (by unfold Func.isWrapper; first | (rw [if_pos (by decide +kernel)]; kernel_rfl) | (rw [if_neg (by decide +kernel)]; exact ⟨rfl, rfl⟩))
    (fun os started H enc _ => lifted os started H enc)
end Go.Proofs.Ytpohhlddbdepcaa.order

/- The row's step, closed from 'Below': what was there when the call began is as it was; new blocks may hold what they will. -/
import Derived.ChangeSame
import Derived.Below
import Derived.Test.YtpmbnnobfjjpaaaGreatDoorPc
import Derived.Test.YtpmbnnobfjjpaaaGreatDoorLives22
import Derived.Test.YtpmbnnobfjjpaaaGreatDoorFactsB
import Derived.Test.YtpmbnnobfjjpaaaGreatDoorFactsC
import Derived.Test.YtpmbnnobfjjpaaaGreatDoorWitP
import Derived.Test.YtpmbnnobfjjpaaaGreatDoorTied
import Derived.Test.YtpmbnnobfjjpaaaGreatDoorCards
import Derived.ProofKit
import Derived.Lib.Hide
import Derived.ChangeSlices
import Derived.Carry
import Derived.WideKeyArgs
import Derived.OpenShut
import Derived.ChangeMaps5
namespace Go.Proofs
set_option linter.unusedVariables false
set_option linter.unusedSimpArgs false
open Go.ChangeShapes Go.WideShapes Go.RowKit

theorem post_below {H : Type} {enc : TypeId × Value → H} {P : Program} {f : Func} {s : ChangeSpec} {apart fresh handsOn again : Bool} {W W' : World} {args : Array Value} {v : Value} {ds gs : List (DataW H)} {before pa pv : List MemPlace}
    (hW : DataW.Whole enc P f.params.toList s.vars apart W args.toList ds gs before)
    (hres : ∀ (b : Nat) (sp : Nat → Bool) (hd : Bool), DataW.TrodAll enc P W' b sp hd f.resultTypes.toList (v.resultList f.resultTypes.size) (s.fn H (ds ++ gs)).results [])
    (hargs : ∀ sp : Nat → Bool, (∀ p ∈ before, sp p.block = true) → DataW.TrodAll enc P W' 0 sp true f.params.toList args.toList (s.fn H (ds ++ gs)).args pa)
    (hvars : ∀ sp : Nat → Bool, (∀ p ∈ before, sp p.block = true) → DataW.TrodVars enc P W' sp s.vars (s.fn H (ds ++ gs)).vars pv)
    (hps : before = pa ++ pv) (hb : Below W.heap.size W W')
    (hok : ∀ (j : Nat) (t : TypeId) (r : Value), f.resultTypes[j]? = some t → (v.resultList f.resultTypes.size)[j]? = some r → Value.okWide P W' .any 0 t r) :
    s.post enc P f apart fresh handsOn again W args v W' := by
  have hlt : ∀ p ∈ before, p.block < W.heap.size := fun p hp => hW.lt p hp
  have hold : ∀ p ∈ before, (fun b => decide (b < W.heap.size)) p.block = true := fun p hp => by simpa using hlt p hp
  refine ⟨ds, gs, before, [], pa, pv, hW, hres _ _ _, hargs _ hold, hvars _ hold, hb.frame _, fun _ => ?_⟩
  obtain ⟨_, _, _, _, _, hz, hn⟩ := hW
  refine ⟨hok, _, _, ([] ++ pa) ++ pv, ⟨[] ++ pa, pv, trodAll_append (hargs _ (fun _ _ => rfl)) (hres _ _ _), hvars _ (fun _ _ => rfl), rfl, ?_, ?_⟩, ?_⟩
  · intro b off hp
    have hp' : MemPlace.cell b off ∈ before := by rw [hps]; simpa using hp
    have h1 : b < W.heap.size := hlt _ hp'
    rw [hb.frozen (p := ⟨b, off, none⟩) h1]
    exact hz b off hp'
  · intro ha
    have := hn ha
    rw [hps] at this
    simpa using this
  · intro p hp _
    rw [hps]
    simpa using hp

end Go.Proofs

namespace Go.Proofs.YtpmbnnobfjjpaaaGreatDoor
set_option linter.unusedVariables false
set_option linter.unusedSimpArgs false
open Go.ChangeShapes Go.WideShapes Go.ChangeAt Go.RowKit Go.ChangeMaps

section
open Go
theorem jf9 : (fun (P : Program) (f : FuncId) (fn : Func) (s : ChangeSpec) (c : OpenClaim) => ((c.inPlace == P.inPlace f))) Tryz.prog 4 Tryz.f4 (OpenSpec.ofChange Rows.linesPrintSpec).bare Rows.linesPrintRow = true := by show (["internal/abi.NoEscape", "internal/bytealg.MakeNoZero", "internal/bytealg.IndexByteString", "internal/bytealg.IndexString", "maps.clone", "internal/reflectlite.ValueOf", "(internal/reflectlite.Value).Type", "(internal/reflectlite.Value).IsNil", "internal/reflectlite.TypeOf", "(internal/reflectlite.Value).Elem", "(internal/reflectlite.Value).Set"] == Tryz.prog.inPlace 4) = true; rw [hp_inPlace]; kernel_rfl
theorem jf10 : (fun (P : Program) (f : FuncId) (fn : Func) (s : ChangeSpec) (c : OpenClaim) => ((c.unfollowed == P.unfollowed f))) Tryz.prog 4 Tryz.f4 (OpenSpec.ofChange Rows.linesPrintSpec).bare Rows.linesPrintRow = true := by show (true == Tryz.prog.unfollowed 4) = true; rw [hp_unfollowed]; kernel_rfl
theorem jf11 : (fun (P : Program) (f : FuncId) (fn : Func) (s : ChangeSpec) (c : OpenClaim) => ((c.recurses == P.recurses f))) Tryz.prog 4 Tryz.f4 (OpenSpec.ofChange Rows.linesPrintSpec).bare Rows.linesPrintRow = true := by show (true == Tryz.prog.recurses 4) = true; rw [hp_recurses]; kernel_rfl
theorem jf12 : (fun (P : Program) (f : FuncId) (fn : Func) (s : ChangeSpec) (c : OpenClaim) => ((c.named == P.varsNamed f))) Tryz.prog 4 Tryz.f4 (OpenSpec.ofChange Rows.linesPrintSpec).bare Rows.linesPrintRow = true := by show (["internal/bytealg.MaxLen", "unicode/utf8.first", "unicode/utf8.acceptRanges", "internal/strconv.uint64pow10", "math/bits.deBruijn32tab", "math/bits.deBruijn64tab", "errors.errorType"] == Tryz.prog.varsNamed 4) = true; rw [hp_named]; kernel_rfl
set_option maxRecDepth 100000 in
theorem closed : joinedFacts Tryz.prog 4 Tryz.f4 (OpenSpec.ofChange Rows.linesPrintSpec).bare Rows.linesPrintRow = true :=
  and_tr (and_tr (and_tr (and_tr (and_tr (and_tr (and_tr (and_tr (and_tr (and_tr (and_tr (and_tr (and_tr (and_tr (and_tr (and_tr (and_tr (and_tr (and_tr (and_tr (and_tr (and_tr (and_tr (and_tr (and_tr (and_tr (and_tr (and_tr (and_tr (and_tr (and_tr (jf0) jf1) jf2) jf3) jf4) jf5) jf6) jf7) jf8) jf9) jf10) jf11) jf12) jf13) jf14) jf15) jf16) jf17) jf18) jf19) jf20) jf21) jf22) jf23) jf24) jf25) jf26) jf27) jf28) jf29) jf30) jf31
theorem goes_at (P : Program) (c : OpenClaim) (g : FuncId) (hn : P.funcNamed c.func = some g) (hs : c.start = .entering) : c.goesBy P = P.goes g := by
  unfold OpenClaim.goesBy Program.goesAt Program.goesFrom
  rw [hn, hs]
  simp
theorem f_goes : false = Rows.linesPrintRow.goesBy Tryz.prog := by rw [goes_at Tryz.prog Rows.linesPrintRow 4 f_named rfl, hp_goes]
theorem print_row_tie : Rows.linesPrintRow.laidByTextAt .later Tryz.pinned [.pinned, .data, .data, .data, .data, .handle] true :=
  OpenClaim.laidByTextAt_pinned rfl rfl tie_all rfl rfl rfl rfl (fun y hy _e => by
    simp only [Rows.linesPrintRow, List.zip_cons_cons, List.zip_nil_right, List.mem_cons, List.mem_nil_iff, or_false] at hy
    rcases hy with rfl | rfl | rfl | rfl | rfl | rfl
    · exact ⟨tie_pin, by kernel_rfl⟩
    · cases _e
    · cases _e
    · cases _e
    · cases _e
    · cases _e) tie_fits
end

/-- lives() of the law's package answers true -/
theorem lives_ok : LivesOk := fun w ⟨_, _, _, _, h1, h2⟩ => (lives22 w h1 h2).mono fun _ _ ⟨he, hz, hk, ho, ht, hu⟩ => ⟨he, ⟨ho, ht, hu, hz, hk⟩⟩

theorem row1 : ((begin Tryz.prog (fun _ _ => 0) default).world.heap[1]?).bind Obj.row? = some (#[.int .i64 0], 3) := by kernel_rfl

set_option maxRecDepth 100000 in
theorem max_of_shape {W : World} (h : W.ShapedOpen Tryz.prog) : MaxIs W := by
  obtain ⟨cs, hh, hs, hr⟩ := h.1 1 _ 3 (of_decide_eq_true (by kernel_rfl)) row1
  obtain ⟨ts, hts, _, hall⟩ := hr (by kernel_rfl)
  have hc : Tryz.prog.cellTypes Tryz.prog.depth 3 = some [3] := by kernel_rfl
  rw [hc] at hts
  cases hts
  have h1 : 0 < cs.size := by rw [hs]; decide
  obtain ⟨u, hu', hok⟩ := hall 0 cs[0] (by simp [h1])
  have : u = 3 := by simpa using hu'.symm
  subst this
  unfold Cell.ok at hok
  rw [Tryz.underlying3] at hok
  have : ∃ m, cs[0] = .int .i64 m := by
    generalize cs[0] = v at hok ⊢
    cases v with
    | int k n => exact ⟨n, by rw [hok.1]⟩
    | _ => exact False.elim hok
  obtain ⟨m, hm⟩ := this
  exact ⟨cs, 3, _, m, hh, by rw [Array.getElem?_eq_getElem h1, hm]⟩

open Go.RowKit in
theorem handed_take {W : World} {b off cap m : Nat} {zs : List Int} (hmc : m ≤ cap) (hz : zs.length = cap) (hi : ∀ x ∈ zs, -9223372036854775808 ≤ x ∧ x ≤ 9223372036854775807)
    (hcell : ∀ j, j < zs.length → W.cell? ⟨b, off + j, none⟩ = some (.int .i64 (zs.getD j 0))) : HandedI W (.slice (some ⟨b, off, none⟩) m cap) (zs.take m) := by
  have hl : (zs.take m).length = m := by rw [List.length_take]; omega
  have hg : ∀ j, j < m → (zs.take m).getD j 0 = zs.getD j 0 := fun j hj => by simp [List.getD, List.getElem?_take, hj]
  by_cases h0 : m = 0
  · subst h0; exact .inl ⟨by simp, _, _, rfl⟩
  · have hb : b < W.heap.size := by
      have := hcell 0 (by omega)
      unfold World.cell? at this
      cases hq : W.heap[b]? with
      | none => simp only [hq] at this; cases this
      | some o => exact (Array.getElem?_eq_some_iff.1 hq).1
    refine .inr ⟨b, off, cap, by rw [hl], by omega, by omega, hb, fun j hj => ?_, fun j hj => ?_⟩
    · rw [hl] at hj
      rw [hg j hj]
      exact hi _ (getD_mem (by omega))
    · rw [hl] at hj
      rw [hg j hj]
      exact hcell j (by omega)

theorem walk_print {W : World} {b off len cap : Nat} {zs : List Int} (lv : LivesOk) (hm : MaxIs W) (hl : len ≤ cap) (hz : zs.length = cap) (hi : ∀ x ∈ zs, -9223372036854775808 ≤ x ∧ x ≤ 9223372036854775807)
    (hcell : ∀ j, j < zs.length → W.cell? ⟨b, off + j, none⟩ = some (.int .i64 (zs.getD j 0))) : Calls Tryz.prog 4 #[.slice (some ⟨b, off, none⟩) len cap] W (TrueBelow W) := by
  by_cases h : len ≤ 30
  · exact law4_body lv (some ⟨b, off, none⟩) len cap len (zs.take len) W (Lib.hid hm) (by rw [List.length_take]; omega) h (.inl ⟨h, rfl⟩) (Lib.hid (handed_take hl hz hi hcell))
  · exact law4_body lv (some ⟨b, off, none⟩) len cap 30 (zs.take 30) W (Lib.hid hm) (by rw [List.length_take]; omega) (by omega) (.inr ⟨by omega, rfl, hl⟩) (Lib.hid (handed_take (by omega) hz hi hcell))
theorem walk_print0 {W : World} {p : Option Addr} {cap : Nat} (lv : LivesOk) (hm : MaxIs W) : Calls Tryz.prog 4 #[.slice p 0 cap] W (TrueBelow W) :=
  law4_body lv p 0 cap 0 [] W (Lib.hid hm) rfl (by omega) (.inl ⟨by omega, rfl⟩) (Lib.hid (.inl ⟨rfl, p, cap, rfl⟩))
theorem cells3 : Tryz.prog.cellsOf 3 = 1 := by kernel_rfl
theorem read22 : Tryz.prog.readableRec 22 = true := by kernel_rfl
theorem row22 : 22 < Tryz.prog.types.size := of_decide_eq_true (by kernel_rfl)
theorem mem_bd {zs : List Int} (h : ∀ n ∈ zs, (Lit.int .i64 n).wf = true) : ∀ x ∈ zs, -9223372036854775808 ≤ x ∧ x ≤ 9223372036854775807 := fun x hx => by
  have := h x hx
  have h1 : (decide (IntKind.min .i64 ≤ x) && decide (x ≤ IntKind.max .i64)) = true := this
  have e1 : IntKind.min .i64 = -9223372036854775808 := by decide
  have e2 : IntKind.max .i64 = 9223372036854775807 := by decide
  rw [e1, e2] at h1
  simpa using h1

set_option maxRecDepth 100000 in
theorem contract (H : Type) (enc : TypeId × Value → H) (W : World) (base : Nat) (args : Array Value) (ds gs : List (DataW H)) (before : List MemPlace)
    (hval : ∀ (j : Nat) t v, Tryz.f4.params[j]? = some t → args[j]? = some v → Value.okWide Tryz.prog W .any base t v)
    (hW : DataW.Whole enc Tryz.prog Tryz.f4.params.toList Rows.linesPrintSpec.vars false W args.toList ds gs before) (hsh : W.ShapedOpen Tryz.prog) :
    Calls Tryz.prog 4 args W fun e W' => ∃ v, e = .returned v ∧ Rows.linesPrintSpec.post enc Tryz.prog Tryz.f4 false true false false W args v W' := by
  have hW' := hW
  obtain ⟨p, q, hA0, hV, rfl, hfz, hnd⟩ := hW
  have hA : DataW.TrodAll enc Tryz.prog W 0 (fun _ => true) true Tryz.f4.params.toList args.toList ds p := hA0
  rw [Tryz.params4] at hA hval
  obtain ⟨v0, vs0, d0, ds0, p0, q0, hargs, rfl, rfl, h0, r0⟩ := trodAll_cons hA
  obtain ⟨rfl, rfl, rfl⟩ := trodAll_nil r0
  obtain rfl : args = #[v0] := by cases args; simp_all
  obtain ⟨rfl, rfl⟩ := trodVars_none hV
  obtain ⟨a0, len, cap, rfl⟩ := Go.WideShapes.okWide_slice Tryz.underlying22 (hval 0 22 v0 rfl rfl)
  clear hA0
  simp only [List.append_nil] at hW'
  have hlt : ∀ x ∈ p0, x.block < W.heap.size := fun x hx => hW'.lt x hx
  have W4 : Calls Tryz.prog 4 #[.slice a0 len cap] W (TrueBelow W) := by
    obtain ⟨fuel, hf⟩ := h0
    rcases open_ints Tryz.underlying22 Tryz.underlying3 cells3 hf with ⟨hcs, hx⟩ | ⟨a, len', cap', zs, hcs, _, hl, hm, hz, hx, hcell, hwz⟩
    · simp [Value.cells] at hcs
      obtain ⟨rfl, rfl, rfl⟩ := hcs
      exact walk_print0 lives_ok (max_of_shape hsh)
    · simp [Value.cells] at hcs
      obtain ⟨rfl, rfl, rfl⟩ := hcs
      simp only [if_true] at hz
      by_cases hl0 : len = 0
      · subst hl0; exact walk_print0 lives_ok (max_of_shape hsh)
      · obtain ⟨b, off, spot⟩ := a
        have hspot : spot = Option.none := by simpa [Addr.add] using World.cell?_spot (hcell 0 (by omega))
        subst hspot
        exact walk_print lives_ok (max_of_shape hsh) hl hz (mem_bd hwz) (fun j hj => by rw [← add_plain]; exact hcell j hj)
  refine W4.mono fun e W' he => ?_
  obtain ⟨rfl, hb⟩ := he
  exact ⟨_, rfl, post_below (pa := p0 ++ []) (pv := []) hW' (fun _ _ _ => trodAll_cons_mk (shut_bool Tryz.underlying4 _) trodAll_mk0) (fun sp hsp => trodAll_cons_mk (WideElems.Trod_stays hv_laidOut read22 row22 h0 (fun x hx => hb.same (hlt x hx)) (fun x hx => hsp x hx)) trodAll_mk0) (fun _ _ => rfl) (by simp)
    hb (ok_one (by kernel_rfl) rfl (okWide_bool_mk Tryz.underlying4 _))⟩

set_option maxRecDepth 100000 in
theorem lifted (os : Os) (started : os.Started) (H : Type) (enc : TypeId × Value → H) (F : Stop.Interp) :
    ReturnsInHanded {} Tryz.checked os 4 .any ((OpenSpec.ofChange Rows.linesPrintSpec).preRow enc Tryz.prog Tryz.f4 Rows.linesPrintRow.domain false Rows.linesPrintRow.laid) (((OpenSpec.ofChange Rows.linesPrintSpec).at F).post enc Tryz.prog Tryz.f4 false true false false) := by
  obtain ⟨places, hx⟩ := reads os enc
  refine returnsInHanded_of_row (C := Tryz.checked) (s := OpenSpec.ofChange Rows.linesPrintSpec) f_own started f_noInit Tryz.func4
    (witness_row_at (enc := enc) (C := Tryz.checked) false (laidWorld os) #[.slice none 0 0] rfl (wit4 os) (wit5 os) (wit6 os)
      (OpenSpec.preRow_of_cond 8 hx rfl (fun k hk => by cases hk) (wit_sz os enc) (laid_met os))) ?_
  intro W base args ds gs before hval hW _ _ _ _ hsh _
  exact contract H enc W base args ds gs before hval hW hsh

theorem said : Rows.LinesPrintSaid :=
  OpenClaim.holds_of_cond 4 Tryz.f4 rfl rfl rfl rfl rfl rfl rfl ⟨rfl, rfl, rfl, rfl, rfl⟩ rfl rfl rfl rfl rfl f_named Tryz.func4 closed
    (of_decide_eq_true f_instB) f_wrap
    (fun os started H enc _ F => by rw [OpenClaim.pre_eq_preRow]; exact lifted os started H enc F)

theorem plain (f : FuncId) (fn : Func) (hf : Tryz.pinned.checked.prog.funcNamed "selvage/selvagelaw22.LinesPrint" = some f) (hfn : Tryz.pinned.checked.prog.funcs[f]? = some fn) :
    true = Tryz.pinned.checked.prog.looks [] ∧ ∀ (j : Nat) t, fn.params[j]? = some t → Tryz.pinned.checked.prog.wantsStandIn t = false := by
  obtain rfl : f = 4 := Option.some.inj (f_named.symm.trans hf) |>.symm
  obtain rfl : fn = Tryz.f4 := (Option.some.inj (Tryz.func4.symm.trans hfn)).symm
  refine ⟨f_looks, fun j t ht => ?_⟩
  rw [Tryz.params4] at ht
  obtain rfl : t = 22 := by simpa using Array.mem_of_getElem? ht
  exact f_stand

/-- THE CARD OF LinesPrint -/
theorem linesPrint_card : Rows.LinesPrintCardSaid :=
  Claim7.holds_tied_plain_at .later [] _ _ _ _ said (fun _ h => by cases h) f_wf (fun _ h => by cases h) print_row_tie rfl ⟨rfl, rfl⟩ f_main rfl plain f_goes
#print axioms linesPrint_card
end Go.Proofs.YtpmbnnobfjjpaaaGreatDoor

/- A part of the proof that selvagelaw22.LinesScript answers true at every text. -/
import Derived.Test.YtpmbnnobfjjpaaaGreatDoorSf
import Derived.Test.YtpmbnnobfjjpaaaGreatDoorShelf
namespace Go.Proofs
set_option linter.unusedVariables false
set_option linter.unusedSimpArgs false
open Go.AM Go.RowKit

noncomputable def hookSc : Hook := fun f args S =>
  if f = 12 then
    match args with
    | [.lit (.string w)] => if w.size ≤ 400 then some (some (.lit (.tuple #[.int .i64 (readL w.data.toList).1, .int .i64 (readL w.data.toList).2]), S)) else none
    | _ => none
  else if f = 13 then
    match args with
    | [.lit (.string w), .lit (.string p)] => some (some (.lit (.string ⟨(Lib.trimPrefix w.data.toList p.data.toList).toArray⟩), S))
    | _ => none
  else if f = 20 then
    match args with
    | [.lit (.string s), .lit (.string p)] =>
      if s.size ≤ 400 then
        match S.get 0 with
        | some (.fixed 1 (.cells ⟨.int .i64 _ :: _⟩ _ _)) =>
          some (some (.lit (.tuple #[.string ⟨(Lib.cut s.data.toList p.data.toList).1.toArray⟩, .string ⟨(Lib.cut s.data.toList p.data.toList).2.1.toArray⟩, .bool (Lib.cut s.data.toList p.data.toList).2.2]), S))
        | _ => none
      else none
    | _ => none
  else none

theorem hookSc_ok (m : Int) (rest : List Value) (t : TypeId) (fz : Nat × Nat) : HookS hookSc (.fixed 1 (.cells ⟨.int .i64 m :: rest⟩ t fz)) := by
  refine ⟨fun _ _ => rfl, fun _ _ => rfl, fun _ _ => rfl, fun w S h => ?_, fun w p S => rfl, fun s p S h h0 => ?_⟩
  · show (if w.size ≤ 400 then _ else _) = _
    rw [if_pos h]
  · show (if s.size ≤ 400 then (match S.get 0 with | some (.fixed 1 (.cells ⟨.int .i64 _ :: _⟩ _ _)) => _ | _ => _) else _) = _
    rw [if_pos h, h0]
    rfl

theorem rel_drewN {σ : Sig} {S : AState} {w : World} (h : Rel σ S w) : ∀ n, Rel σ S (w.drewN n)
  | 0 => h
  | n + 1 => (rel_drewN h n).drew
theorem ext_drewN (σ : Sig) (S : AState) (w : World) : ∀ n, Ext σ S w σ S (w.drewN n)
  | 0 => Ext.refl σ S w
  | n + 1 => (ext_drewN σ S w n).trans (Ext.drew σ S _)

theorem concL2' {σ : Sig} {a b : AV} {us : List Value} (h : concL σ [a, b] = some us) : ∃ x y, us = [x, y] ∧ conc σ a = some x ∧ conc σ b = some y := by
  obtain ⟨x, l, rfl, h1, h2⟩ := concL_cons h
  obtain ⟨y, l', rfl, h3, h4⟩ := concL_cons h2
  have : some [] = some l' := h4
  cases this
  exact ⟨x, y, rfl, h1, h3⟩

theorem hookOkSc : HookOk eS hookSc := by
  intro f args S v S' h σ w us hr hargs
  unfold hookSc at h
  split at h
  · rename_i hf
    subst hf
    split at h
    · rename_i s
      split at h
      · rename_i hs
        simp only [Option.some.injEq, Prod.mk.injEq] at h
        obtain ⟨rfl, rfl⟩ := h
        obtain ⟨x, l, rfl, h1, h2⟩ := concL_cons hargs
        have h3 : some [] = some l := h2
        cases h3
        have h4 : some (Value.string s) = some x := h1
        cases h4
        refine (callsIn_wide.2 (walk_read s w hs)).mono fun e w' he => ?_
        obtain ⟨rfl, rfl⟩ := he
        exact ⟨_, σ, rfl, rfl, hr, Ext.refl σ _ _⟩
      · cases h
    · cases h
  · split at h
    · rename_i hf
      subst hf
      split at h
      · rename_i s p
        simp only [Option.some.injEq, Prod.mk.injEq] at h
        obtain ⟨rfl, rfl⟩ := h
        obtain ⟨x, y, rfl, h1, h2⟩ := concL2' hargs
        have h4 : some (Value.string s) = some x := h1
        have h5 : some (Value.string p) = some y := h2
        cases h4; cases h5
        refine (callsIn_wide.2 (Tryz.strings_TrimPrefix s p w)).mono fun e w' he => ?_
        obtain ⟨rfl, rfl⟩ := he
        exact ⟨_, σ, rfl, rfl, hr, Ext.refl σ _ _⟩
      · cases h
    · split at h
      · rename_i hf
        subst hf
        split at h
        · rename_i s p
          split at h
          · rename_i hs
            split at h
            · rename_i m rest t fz hg
              simp only [Option.some.injEq, Prod.mk.injEq] at h
              obtain ⟨rfl, rfl⟩ := h
              obtain ⟨x, y, rfl, h1, h2⟩ := concL2' hargs
              have h4 : some (Value.string s) = some x := h1
              have h5 : some (Value.string p) = some y := h2
              cases h4; cases h5
              obtain ⟨l, _, k1, k2⟩ := hr.obj 0 _ hg
              have hm : w.cell? ⟨1, 0, none⟩ = some (.int .i64 m) := by rw [cell_of_block k2]; rfl
              refine (callsIn_wide.2 (Tryz.strings_Cut s p m w (by omega) hm)).mono fun e w' he => ?_
              obtain ⟨rfl, n, rfl⟩ := he
              exact ⟨_, σ, rfl, rfl, rel_drewN hr n, ext_drewN σ _ _ n⟩
            · cases h
          · cases h
        · cases h
      · cases h

theorem nogoS : (Tryz.prog.funcs.toList.all fun fn => !(fn.name == "runtime.NumGoroutine")) = true := by kernel_rfl
theorem envOkS : EnvOk eS := by
  refine ⟨fun f fn hf => ?_, fun f k hk => ?_⟩
  · have h1 := List.all_eq_true.1 nogoS fn (Array.mem_toList_iff.2 (Array.mem_of_getElem? hf))
    simpa using h1
  · cases hk

/-- WHAT lines.Script TELLS, in whatever world holds an int in bytealg.MaxLen -/
def ScriptOut (s : ByteArray) (w : World) (e : Ending) (w' : World) : Prop :=
  ∃ v, e = .returned (.tuple #[v, .int .i64 (errOf (script s.data.toList))]) ∧ HoldsI w' v (outOf (script s.data.toList)) ∧ Below w.heap.size w w'

theorem walk_script (s : ByteArray) (w : World) (hs : s.size ≤ 400) {C : Array Value} {t : TypeId} {fz : Nat × Nat} {m : Int} (h1 : w.heap[1]? = some (.cells C t fz)) (h2 : C[0]? = some (.int .i64 m)) :
    Calls Tryz.prog 5 #[.string s] w (ScriptOut s w) := by
  obtain ⟨l⟩ := C
  cases l with
  | nil => simp at h2
  | cons x rest =>
    obtain rfl : x = .int .i64 m := by simpa using h2
    have hk := hookSc_ok m rest t fz
    have hg : (fixedS 1 (.cells ⟨.int .i64 m :: rest⟩ t fz)).get 0 = some (.fixed 1 (.cells ⟨.int .i64 m :: rest⟩ t fz)) := by rw [fixedS_get, if_pos rfl]
    have hn : (fixedS 1 (.cells ⟨.int .i64 m :: rest⟩ t fz)).next = 1 := rfl
    have hargs : ∀ σ, concL σ [.lit (.string s)] = some [.string s] := fun _ => rfl
    by_cases h0 : s.size = 0
    · have he : (s.toList == (⟨#[]⟩ : ByteArray).toList) = true := by
        have : s.toList = [] := by rw [Lib.toList_data]; apply List.eq_nil_of_length_eq_zero; rw [Array.length_toList]; exact h0
        rw [this, Lib.toList_data]; rfl
      obtain ⟨S', v, hc, hv, hS0⟩ := am5_nil hookSc _ hk 500 10 s (fixedS 1 (.cells ⟨.int .i64 m :: rest⟩ t fz)) he (by omega) (by omega) hg
      refine (am_door envOkS (by kernel_rfl) hookOkSc hargs hc hS0 w h1).mono fun e w' he => ?_
      obtain ⟨σ', u, rfl, hu, hr, hb⟩ := he
      subst hv
      have hu' : some (Value.tuple #[.slice none 0 0, .int .i64 0]) = some u := hu
      cases hu'
      refine ⟨.slice none 0 0, ?_, ?_, hb⟩
      · rw [script_nil h0]; rfl
      · rw [script_nil h0]; exact .inl ⟨rfl, rfl⟩
    · have he : (s.toList == (⟨#[]⟩ : ByteArray).toList) = false := by
        rw [beq_eq_false_iff_ne]; intro e
        have : s.toList.length = 0 := by rw [e, Lib.toList_data]; rfl
        rw [Lib.toList_data, Array.length_toList] at this
        exact h0 this
      obtain ⟨S', v, hc, hv, hS0⟩ := am5_ne hookSc _ hk 500 10 s (fixedS 1 (.cells ⟨.int .i64 m :: rest⟩ t fz)) he hs (by omega) (by omega) (by omega) hg
      refine (am_door envOkS (by kernel_rfl) hookOkSc hargs hc hS0 w h1).mono fun e w' he => ?_
      obtain ⟨σ', u, rfl, hu, hr, hb⟩ := he
      rw [ScriptOut, script_ne (by omega)]
      have hu2 : ∃ u1, conc σ' v = some u1 ∧ u = .tuple #[u1, .int .i64 (errOf (scanR [] s.data.toList))] := by
        unfold conc at hu
        unfold concL at hu
        cases hq : conc σ' v with
        | none => rw [hq] at hu; cases hu
        | some u1 =>
          rw [hq] at hu
          have : some (Value.tuple #[u1, .int .i64 (errOf (scanR [] s.data.toList))]) = some u := hu
          cases this
          exact ⟨u1, rfl, rfl⟩
      obtain ⟨u1, hu1, rfl⟩ := hu2
      refine ⟨u1, rfl, ?_, hb⟩
      cases hsc : scanR [] s.data.toList with
      | none =>
        rw [hsc] at hv
        have : v = .lit (.slice none 0 0) := hv
        subst this
        have : some (Value.slice none 0 0) = some u1 := hu1
        cases this
        exact .inl ⟨rfl, rfl⟩
      | some l =>
        rw [hsc] at hv
        exact holds_of_own hr hv hu1
end Go.Proofs

/- lives22, by the abstract machine: its set-up over this seat's program. -/
import Derived.Test.YtpmbnnobfjjpaaaGreatDoorAmTop
import Derived.Test.YtpmbnnobfjjpaaaGreatDoorShelf
import Derived.KernelRfl
namespace Go.Proofs
set_option linter.unusedVariables false
set_option linter.unusedSimpArgs false
open Go.AM

def ext22 : FuncId → Option ExtK := fun f =>
  if f == 73 then some .noEscape else if f == 122 then some .indexByte else if f == 76 then some (.makeNoZero #[3] #[55]) else if f == 529 then some .mapsClone else none

noncomputable def env22 : Env := { P := Tryz.prog, ext := ext22 }

noncomputable def hook22 : Hook := fun f args S =>
  if f == 51 then
    match args, S.get 0 with
    | [.lit (.string s), .lit (.string b)], some (.fixed 1 (.cells ⟨.int .i64 _ :: _⟩ _ _)) =>
      if s.size < 4294967281 then some (some (.lit (.int .i64 (Lib.index s.data.toList b.data.toList)), S)) else some none
    | _, _ => some none
  else none

theorem nogo22 : (Tryz.prog.funcs.toList.all fun fn => !(fn.name == "runtime.NumGoroutine")) = true := by kernel_rfl

theorem envOk22 : EnvOk env22 := by
  refine ⟨fun f fn hf => ?_, fun f k hk => ?_⟩
  · have h1 := List.all_eq_true.1 nogo22 fn (Array.mem_toList_iff.2 (Array.mem_of_getElem? hf))
    simpa using h1
  · simp only [env22, ext22] at hk
    split at hk
    · rename_i h; cases hk; obtain rfl : f = 73 := by simpa using h
      exact ⟨Tryz.f73, Tryz.func73, by kernel_rfl, by kernel_rfl⟩
    · split at hk
      · rename_i h; cases hk; obtain rfl : f = 122 := by simpa using h
        exact ⟨Tryz.f122, Tryz.func122, by kernel_rfl, by kernel_rfl⟩
      · split at hk
        · rename_i h; cases hk; obtain rfl : f = 76 := by simpa using h
          exact ⟨Tryz.f76, Tryz.func76, by kernel_rfl, by kernel_rfl⟩
        · split at hk
          · rename_i h; cases hk; obtain rfl : f = 529 := by simpa using h
            exact ⟨Tryz.f529, Tryz.func529, by kernel_rfl, by kernel_rfl⟩
          · cases hk

theorem hookOk22 : HookOk env22 hook22 := by
  intro f args S v S' h σ w us hr hargs
  unfold hook22 at h
  split at h
  · rename_i hf
    obtain rfl : f = 51 := by simpa using hf
    split at h
    · rename_i s b m rest t fz hg
      split at h
      · rename_i hs
        simp only [Option.some.injEq, Prod.mk.injEq] at h
        obtain ⟨rfl, rfl⟩ := h
        obtain ⟨x, y, rfl, h1, h2⟩ := concL2 hargs
        obtain rfl := lit_of h1
        obtain rfl := lit_of h2
        obtain ⟨l, _, k1, k2⟩ := hr.obj 0 _ hg
        have hm : w.cell? ⟨1, 0, none⟩ = some (.int .i64 m) := by rw [cell_of_block k2]; rfl
        have hc := Tryz.stringslite_Index s b m w hs hm
        refine (callsIn_wide.2 hc).mono fun e w' he => ?_
        obtain ⟨rfl, rfl⟩ := he
        exact ⟨_, σ, rfl, rfl, hr, Ext.refl σ _ _⟩
      · cases h
    · cases h
  · cases h

end Go.Proofs

/- parse.Program at the text of the document's example, run apart at the four places where lives comes to it. -/
import Derived.Test.YtpmbnnobfjjpaaaGreatDoorLives
import Derived.Test.YtpmbnnobfjjpaaaGreatDoorAmMerge
namespace Go.Proofs
set_option linter.unusedVariables false
set_option linter.unusedSimpArgs false
open Go.AM

def src24 : ByteArray := ⟨#[100, 111, 32, 112, 114, 105, 110, 116, 32, 34, 97, 34]⟩
noncomputable def parseV (n : Nat) : AV := .tuple [.agg [.lit (.int .i64 30), .lit (.string ⟨#[]⟩), .lit (.int .i64 0), .lit (.int .i64 0), .lit (.slice none 0 0), .slice (n + 100) 0 1 none], .lit (.int .i64 0), .lit (.int .i64 0)]
noncomputable def parseA : AObj := .row [.lit (.int .i64 2), .lit (.string ⟨#[97]⟩), .lit (.int .i64 0), .lit (.int .i64 9), .lit (.slice none 0 0), .lit (.slice none 0 0)] 6 105 false
noncomputable def parseB (n : Nat) : AObj := .row [.lit (.int .i64 15), .lit (.string ⟨#[]⟩), .lit (.int .i64 0), .lit (.int .i64 3), .lit (.slice none 0 0), .slice (n + 83) 0 1 none] 6 105 false
noncomputable def parseL (n : Nat) : List (Nat × AObj) := [(n + 83, parseA), (n + 100, parseB n)]

noncomputable def seen52 (n : Nat) (r : Option (AV × AState)) : Option (AV × Nat × Option AObj × Option AObj × Option AObj) :=
  match r with | some (v, S) => some (v, S.next, S.get 0, S.get (n + 83), S.get (n + 100)) | none => none

set_option maxRecDepth 1000000 in
theorem run52a (m : Int) (rest : List Value) (t : TypeId) (fz : Nat × Nat) :
    seen52 15 ((arecsF env22 hook22 1000 100).call 52 [.lit (.string src24)] (baseS 1 (.cells ⟨.int .i64 m :: rest⟩ t fz) 15)) = some (parseV 15, 118, some (.fixed 1 (.cells ⟨.int .i64 m :: rest⟩ t fz)), some parseA, some (parseB 15)) := by kernel_rfl
set_option maxRecDepth 1000000 in
theorem run52b (m : Int) (rest : List Value) (t : TypeId) (fz : Nat × Nat) :
    seen52 150 ((arecsF env22 hook22 1000 100).call 52 [.lit (.string src24)] (baseS 1 (.cells ⟨.int .i64 m :: rest⟩ t fz) 150)) = some (parseV 150, 253, some (.fixed 1 (.cells ⟨.int .i64 m :: rest⟩ t fz)), some parseA, some (parseB 150)) := by kernel_rfl
set_option maxRecDepth 1000000 in
theorem run52c (m : Int) (rest : List Value) (t : TypeId) (fz : Nat × Nat) :
    seen52 446 ((arecsF env22 hook22 1000 100).call 52 [.lit (.string src24)] (baseS 1 (.cells ⟨.int .i64 m :: rest⟩ t fz) 446)) = some (parseV 446, 549, some (.fixed 1 (.cells ⟨.int .i64 m :: rest⟩ t fz)), some parseA, some (parseB 446)) := by kernel_rfl
set_option maxRecDepth 1000000 in
theorem run52d (m : Int) (rest : List Value) (t : TypeId) (fz : Nat × Nat) :
    seen52 624 ((arecsF env22 hook22 1000 100).call 52 [.lit (.string src24)] (baseS 1 (.cells ⟨.int .i64 m :: rest⟩ t fz) 624)) = some (parseV 624, 727, some (.fixed 1 (.cells ⟨.int .i64 m :: rest⟩ t fz)), some parseA, some (parseB 624)) := by kernel_rfl

theorem seen52_some {n k : Nat} {r : Option (AV × AState)} {v : AV} {a b c : Option AObj} (h : seen52 n r = some (v, k, a, b, c)) : ∃ S, r = some (v, S) ∧ S.next = k ∧ S.get 0 = a ∧ S.get (n + 83) = b ∧ S.get (n + 100) = c := by
  unfold seen52 at h
  split at h
  · rename_i v' S
    cases h
    exact ⟨S, rfl, rfl, rfl, rfl, rfl⟩
  · cases h

/-- the four places -/
def isBase (n : Nat) : Bool := n == 15 || n == 150 || n == 446 || n == 624

theorem parse_at (m : Int) (rest : List Value) (t : TypeId) (fz : Nat × Nat) (n : Nat) (h : isBase n = true) :
    ∃ S2, (arecs env22 hook22 1000 100).call 52 [.lit (.string src24)] (baseS 1 (.cells ⟨.int .i64 m :: rest⟩ t fz) n) = some (parseV n, S2) ∧ S2.next = n + 103 ∧ S2.get 0 = some (.fixed 1 (.cells ⟨.int .i64 m :: rest⟩ t fz)) ∧ S2.get (n + 83) = some parseA ∧ S2.get (n + 100) = some (parseB n) := by
  unfold isBase at h
  simp only [Bool.or_eq_true, beq_iff_eq] at h
  rw [← arecsF_eq]
  rcases h with ((rfl | rfl) | rfl) | rfl
  · exact seen52_some (run52a m rest t fz)
  · exact seen52_some (run52b m rest t fz)
  · exact seen52_some (run52c m rest t fz)
  · exact seen52_some (run52d m rest t fz)

noncomputable def hookP : Hook := fun f args S =>
  if f == 52 then
    match args with
    | [.lit (.string s)] =>
      if isBase S.next && decide (s.data.toList = src24.data.toList) then
        match S.get 0 with
        | some (.fixed 1 (.cells ⟨.int .i64 _ :: _⟩ _ _)) => some (some (parseV S.next, mergeS S (parseL S.next) (S.next + 103)))
        | _ => none
      else none
    | _ => none
  else hook22 f args S

theorem hookOkP : HookOk env22 hookP := by
  intro f args S v S' h σ w us hr hargs
  unfold hookP at h
  split at h
  · rename_i hf
    obtain rfl : f = 52 := by simpa using hf
    split at h
    · rename_i s
      split at h
      · rename_i hc
        simp only [Bool.and_eq_true, decide_eq_true_eq] at hc
        obtain ⟨hb, hs⟩ := hc
        have hs' : s = src24 := by
          obtain ⟨⟨l⟩⟩ := s
          have : l = src24.data.toList := hs
          subst this; rfl
        subst hs'
        split at h
        · rename_i m rest t fz hg
          simp only [Option.some.injEq, Prod.mk.injEq] at h
          obtain ⟨rfl, rfl⟩ := h
          obtain ⟨S2, k1, k2, k3, k4, k5⟩ := parse_at m rest t fz S.next hb
          have hb0 : 15 ≤ S.next ∧ S.next ≤ 624 := by
            unfold isBase at hb
            simp only [Bool.or_eq_true, beq_iff_eq] at hb
            omega
          have hus : us = [.string src24] := by
            have : concL σ [.lit (.string src24)] = some [.string src24] := rfl
            rw [this] at hargs; cases hargs; rfl
          subst hus
          have := merge_ok (live := parseL S.next) envOk22 (by kernel_rfl) hookOk22 (us := [.string src24]) (fun _ => rfl) k1 k3 (by omega) (fun p hp => by
            simp only [parseL, List.mem_cons, List.not_mem_nil, or_false] at hp
            rcases hp with rfl | rfl
            · exact ⟨by simp, by simp; omega, k4⟩
            · exact ⟨by simp, by simp; omega, k5⟩) hr rfl hg
          rw [k2] at this
          exact this
        · cases h
      · cases h
    · cases h
  · exact hookOk22 f args S v S' h σ w us hr hargs
end Go.Proofs

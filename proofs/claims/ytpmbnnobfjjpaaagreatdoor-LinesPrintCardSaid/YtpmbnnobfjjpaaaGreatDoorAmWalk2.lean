/- The abstract machine, walked by hand: rounds, ranges over a function. -/
import Derived.Test.YtpmbnnobfjjpaaaGreatDoorAmWalk
namespace Go.AM
set_option linter.unusedVariables false
set_option linter.unusedSimpArgs false

theorem round_normal {E : Env} {hook : Hook} {fuel n l : Nat} {args : List AV} {S S3 : AState} {tm : T AV} {size : Nat} {ps : List Nat} {A B : Code} {D : Nat} {pd pd3 : Option Code} {st3 : LoopState} {fr1 fr2 : AFr}
    (hL : S.get l = some (.loop .ready pd tm size ps A B D)) (hlen : args.length = ps.length)
    (hA : acode E { arecs E hook fuel n with plain := false } (some l) fuel A ⟨putParams ps args size tm, size, []⟩ S = some (.normal, fr1, S))
    (hB : acode E { arecs E hook fuel n with plain := false } (some l) fuel B fr1 (S.put l (.loop .busy pd tm size ps A B D)) = some (.normal, fr2, S3))
    (h3 : S3.get l = some (.loop st3 pd3 tm size ps A B D)) :
    (arecs E hook fuel (n + 1)).round l args S = some (litB true, S3.put l (.loop .ready none tm size ps A B D)) := by
  show aroundF E fuel (arecs E hook fuel n) l args S = _
  unfold aroundF
  simp only [hL, hlen, beq_self_eq_true, ↓reduceIte, hA, hB, h3]

theorem round_ret {E : Env} {hook : Hook} {fuel n l : Nat} {args : List AV} {S S3 : AState} {tm : T AV} {size : Nat} {ps : List Nat} {A B : Code} {D : Nat} {pd pd3 : Option Code} {st3 : LoopState} {fr1 fr2 : AFr}
    (hL : S.get l = some (.loop .ready pd tm size ps A B D)) (hlen : args.length = ps.length)
    (hA : acode E { arecs E hook fuel n with plain := false } (some l) fuel A ⟨putParams ps args size tm, size, []⟩ S = some (.normal, fr1, S))
    (hB : acode E { arecs E hook fuel n with plain := false } (some l) fuel B fr1 (S.put l (.loop .busy pd tm size ps A B D)) = some (.ret, fr2, S3))
    (h3 : S3.get l = some (.loop st3 pd3 tm size ps A B D)) :
    (arecs E hook fuel (n + 1)).round l args S = some (litB false, S3.put l (.loop .done (some .ret) tm size ps A B D)) := by
  show aroundF E fuel (arecs E hook fuel n) l args S = _
  unfold aroundF
  simp only [hL, hlen, beq_self_eq_true, ↓reduceIte, hA, hB, h3]

theorem code_rangeFunc {E : Env} {R : Recs} {fuel : Nat} {f : Operand} {ps : Array Tmp} {ag bd : Code} {fr : AFr} {S S2 S4 S5 : AState} {g : FuncId} {args : List AV} {v : AV} {e : AExit} (hn : S.next + 1 < 65536)
    (h2 : S2 = ((S.put S.next .deferred).bump.put (S.next + 1) (.loop .ready none fr.tmps fr.size ps.toList ag bd S.next)).bump)
    (hf : aCall E S2 (fr.eval f) [.yield (S.next + 1)] = some (.enter g args, S2)) (hc : R.call g args S2 = some (v, S4)) (he : aendLoop S4 (S.next + 1) = some (e, S5)) :
    acode E R none fuel (.rangeFunc f ps ag bd) fr S = some (e, ⟨fr.tmps, fr.size, .mark S.next :: fr.defers⟩, S5) := by
  subst h2
  unfold acode
  rw [new_eq S _ (by omega)]
  simp only [obind_val]
  rw [new_eq _ _ (by rw [next_bump, next_put]; omega)]
  simp only [next_bump, next_put]
  rw [hf]
  simp only [hc, he, List.cons_append, List.nil_append]

theorem endLoop_ready {S : AState} {l size D : Nat} {tm : T AV} {ps : List Nat} {A B : Code} (h : S.get l = some (.loop .ready none tm size ps A B D)) :
    aendLoop S l = some (.normal, S.put l (.loop .exhausted none tm size ps A B D)) := by
  unfold aendLoop
  have hb : ((LoopState.ready) == .busy) = false := rfl
  simp only [h, hb, Bool.false_eq_true, ↓reduceIte]
theorem endLoop_ret {S : AState} {l size D : Nat} {tm : T AV} {ps : List Nat} {A B : Code} (h : S.get l = some (.loop .done (some .ret) tm size ps A B D)) :
    aendLoop S l = some (.ret, S.put l (.loop .exhausted (some .ret) tm size ps A B D)) := by
  unfold aendLoop
  have hb : ((LoopState.done) == .busy) = false := rfl
  simp only [h, hb, Bool.false_eq_true, ↓reduceIte]

theorem defers_mark {E : Env} {R : Recs} {S : AState} {d : Nat} (h : S.get d = some .deferred) : adefers E R [.mark d] S = some (S.kill d) := by
  unfold adefers
  simp only [h]
  rfl
end Go.AM

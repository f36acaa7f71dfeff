/- The abstract machine: drawn regions: one operation more. -/
import Derived.Test.YtpmbnnobfjjpaaaGreatDoorAmDraw3
namespace Go.AM
set_option linter.unusedVariables false
set_option linter.unusedSimpArgs false

theorem lookSame_ok {E : Env} {fr : AFr} {S : AState} {o : Oper} {v : AV} (hr : isReader o.op = true) (h : lookSame E fr S o v = true) : aop E fr S o = some (.val v, S) := by
  unfold lookSame at h
  split at h
  · rename_i u S' hop
    obtain rfl := reader_same hr hop
    rw [hop, same_eq h]
  · cases h

theorem lookAll_ok {E : Env} {fr : AFr} {o : Oper} {v : AV} {bef : List Nat} {news : List DNew} : ∀ {chain : List AState} {ws : List Nat} {c0 : Nat}, lookAll E fr o v bef news chain ws c0 = true →
    ∀ j S, chain[j]? = some S → j + 1 < chain.length → (∀ i ∈ ws.drop j, i ∉ bef) → lookSame E fr (plus S (seenNews bef (c0 + j) news)) o v = true
  | [], _, _, _, j, S, hj, _, _ => by simp at hj
  | [_], _, _, _, j, S, hj, hl, _ => by simp at hl
  | T :: U :: r, ws, c0, h, j, S, hj, hl, hw => by
    simp only [lookAll, Bool.and_eq_true, Bool.or_eq_true] at h
    obtain ⟨h1, h2⟩ := h
    cases j with
    | zero =>
      simp at hj; subst hj
      rcases h1 with h1 | h1
      · rw [List.any_eq_true] at h1
        obtain ⟨i, hi, hc⟩ := h1
        exact absurd (List.contains_iff_mem.1 hc) (hw i (by simpa using hi))
      · exact h1
    | succ j =>
      have := lookAll_ok (chain := U :: r) (ws := ws.tail) (c0 := c0 + 1) h2 j S (by simpa using hj) (by simpa using hl) (fun i hi => hw i (by rw [List.drop_tail] at hi; exact hi))
      rw [show c0 + (j + 1) = c0 + 1 + j by omega]; exact this

/-- a new thing more -/
theorem DHeap.addNew {S0 : AState} {k : Nat} {D : DR} (h : DHeap S0 (k + 1) D) {d : DNew} (hix : d.ix = k) (hg : d.gone = none) (hid : d.id = D.base + D.news.length) (hlim : d.id < D.lim) (h64 : d.id < 65536)
    (hno : ∀ d' ∈ D.news, d'.ix ≠ k) (he : ∃ e ∈ D.ents, e.ix = d.ix ∧ e.kind = .new) (hbef : ∀ e ∈ D.ents, k ∉ e.bef) (hfr : ∀ (c : Nat) (S : AState), D.chain[c]? = some S → S.get d.id = none) : DHeap S0 (k + 1) { D with news := d :: D.news } := by
  refine ⟨h.base, h.chain0, h.len, h.wr, h.wnd, h.wk, ⟨?_, ?_⟩, ?_, ?_, ?_, ?_, ?_, ?_⟩
  · intro x hx
    rcases List.mem_cons.1 hx with rfl | hx
    · exact h64
    · exact h.news.lt x hx
  · intro x hx y hy e
    rcases List.mem_cons.1 hx with rfl | hx1 <;> rcases List.mem_cons.1 hy with rfl | hy1
    · rfl
    · have := (h.nid y hy1).2.2; omega
    · have := (h.nid x hx1).2.2; omega
    · exact h.news.uniq x hx1 y hy1 e
  · intro x hx y hy e
    rcases List.mem_cons.1 hx with rfl | hx1 <;> rcases List.mem_cons.1 hy with rfl | hy1
    · rfl
    · exact absurd (by rw [← e, hix]) (hno y hy1)
    · exact absurd (by rw [e, hix]) (hno x hx1)
    · exact h.nuq x hx1 y hy1 e
  · intro x hx
    rcases List.mem_cons.1 hx with rfl | hx
    · exact he
    · exact h.nix x hx
  · intro x hx
    rcases List.mem_cons.1 hx with rfl | hx
    · refine ⟨by simp only; omega, hlim, by simp only [List.length_cons]; omega⟩
    · have := h.nid x hx
      refine ⟨this.1, this.2.1, by simp only [List.length_cons]; omega⟩
  · intro x hx g hgx
    rcases List.mem_cons.1 hx with rfl | hx
    · rw [hg] at hgx; cases hgx
    · exact h.ngone x hx g hgx
  · intro x hx e hee p hp hb
    rcases List.mem_cons.1 hx with rfl | hx
    · rw [hix] at hb; exact absurd hb (hbef e hee)
    · exact h.nseen x hx e hee p hp hb
  · intro x hx c S hS hp
    rcases List.mem_cons.1 hx with rfl | hx1
    · exact hfr c S hS
    · exact h.fresh x hx1 c S hS hp

/-- a writer more -/
theorem DHeap.addWriter {S0 S' : AState} {k : Nat} {D : DR} (h : DHeap S0 k D) {fr : AFr} {e : Ent} (he : e.ix = k) (hk : e.kind = .write) (hlt : ∀ x ∈ D.ents, x.ix < k)
    (hchk : ∀ d ∈ markGone e.bef D.writers.length D.news, d.gone = none → S'.get d.id = none) :
    DHeap S0 (k + 1) { D with fr := fr, chain := D.chain ++ [S'], news := markGone e.bef D.writers.length D.news, writers := D.writers ++ [k], ents := D.ents ++ [e] } := by
  have hkw : k ∉ D.writers := fun hm => by have := h.wr _ hm; omega
  have hu := mark_uniq (bef := e.bef) (c := D.writers.length) h.news.uniq
  refine ⟨h.base, getElem?_app h.chain0, by simp [h.len], ?_, ?_, ?_, ⟨?_, hu⟩, ?_, ?_, ?_, ?_, ?_, ?_⟩
  · intro i hi
    rcases List.mem_append.1 hi with hi | hi
    · exact Nat.lt_succ_of_lt (h.wr i hi)
    · simp only [List.mem_singleton] at hi; omega
  · rw [List.nodup_append]
    refine ⟨h.wnd, by simp, ?_⟩
    intro a ha b hb
    simp only [List.mem_singleton] at hb
    rintro rfl
    subst hb; exact hkw ha
  · intro x hx hw
    rcases List.mem_append.1 hx with hx | hx
    · rcases List.mem_append.1 hw with hw | hw
      · exact h.wk x hx hw
      · simp only [List.mem_singleton] at hw
        have := hlt x hx; omega
    · simp only [List.mem_singleton] at hx; subst hx; exact hk
  · intro d hd
    obtain ⟨x, hx, _, e2, _⟩ := mem_mark hd
    rw [e2]; exact h.news.lt x hx
  · intro d hd d' hd' e1
    obtain ⟨x, hx, x1, x2, _⟩ := mem_mark hd
    obtain ⟨y, hy, y1, y2, _⟩ := mem_mark hd'
    have := h.nuq x hx y hy (by rw [← x1, ← y1, e1])
    exact hu d hd d' hd' (by rw [x2, y2, this])
  · intro d hd
    obtain ⟨x, hx, x1, _⟩ := mem_mark hd
    obtain ⟨z, h1, h2⟩ := h.nix x hx
    exact ⟨z, List.mem_append.2 (.inl h1), by rw [x1]; exact h2⟩
  · intro d hd
    obtain ⟨x, hx, _, e2, _⟩ := mem_mark hd
    have := h.nid x hx
    simp only [mark_len]
    rw [e2]; exact this
  · intro d hd g hg
    obtain ⟨x, hx, x1, _, _, x4⟩ := mem_mark hd
    rcases x4 with ⟨rfl, _⟩ | ⟨xa, _, xc⟩
    · obtain ⟨z, h1, h2, h3⟩ := h.ngone d hx g hg
      exact ⟨z, List.mem_append.2 (.inl h1), getElem?_app h2, h3⟩
    · rw [xc] at hg; cases hg
      refine ⟨e, List.mem_append.2 (.inr (by simp)), ?_, by rw [x1]; exact xa⟩
      simp [he]
  · intro d hd x hx p hp hb
    obtain ⟨d0, hd0, x1, _, _, x4⟩ := mem_mark hd
    rw [x1] at hb
    rcases List.mem_append.1 hx with hx | hx
    · rcases getElem?_snoc hp with hp | ⟨_, hp⟩
      · obtain ⟨g, g1, g2⟩ := h.nseen d0 hd0 x hx p hp hb
        rcases x4 with ⟨rfl, _⟩ | ⟨_, xb, _⟩
        · exact ⟨g, g1, g2⟩
        · rw [xb] at g2; cases g2
      · have := hlt x hx; omega
    · simp only [List.mem_singleton] at hx; subst hx
      rcases getElem?_snoc hp with hp | ⟨hp, _⟩
      · exact absurd (by rw [← he]; exact List.mem_of_getElem? hp) hkw
      · subst hp
        rcases x4 with ⟨rfl, xn⟩ | ⟨_, _, xc⟩
        · cases hgo : d.gone with
          | none => exact absurd ⟨hb, hgo⟩ xn
          | some g =>
            obtain ⟨z, _, h2, _⟩ := h.ngone d hd0 g hgo
            exact ⟨g, Nat.le_of_lt (getElem?_lt h2), rfl⟩
        · exact ⟨_, Nat.le_refl _, xc⟩
  · intro d hd c S hS hp
    obtain ⟨d0, hd0, _, x2, _, x4⟩ := mem_mark hd
    rcases getElem?_snoc hS with hS | ⟨rfl, rfl⟩
    · rw [x2]
      refine h.fresh d0 hd0 c S hS fun g hg => ?_
      rcases x4 with ⟨rfl, _⟩ | ⟨_, xb, _⟩
      · exact hp g hg
      · rw [xb] at hg; cases hg
    · cases hgo : d.gone with
      | none => exact hchk d hd hgo
      | some g =>
        have h1 := hp g hgo
        rw [h.len] at h1
        rcases x4 with ⟨rfl, _⟩ | ⟨_, _, xc⟩
        · obtain ⟨z, _, h2, _⟩ := h.ngone d hd0 g hgo
          have := getElem?_lt h2; omega
        · rw [xc] at hgo; cases hgo; omega

/-- what is known of an operation, where a writer is laid behind it -/
theorem KFact.addWriter {E : Env} {R : Recs} {all : List Oper} {S0 S' : AState} {k : Nat} {D : DR} {x e : Ent} (hh : DHeap S0 k D) (h : KFact E R all D x) (he : e.ix = k)
    (hchk : x.kind = .look → x.ix ∉ e.bef → aop E D.fr (plus S' (seenNews x.bef (D.writers.length + 1) (markGone e.bef D.writers.length D.news))) x.op = some (.val x.val, plus S' (seenNews x.bef (D.writers.length + 1) (markGone e.bef D.writers.length D.news)))) :
    KFact E R all { D with chain := D.chain ++ [S'], news := markGone e.bef D.writers.length D.news, writers := D.writers ++ [k], ents := D.ents ++ [e] } x := by
  unfold KFact at h ⊢
  cases hk : x.kind <;> rw [hk] at h <;> simp only at h ⊢
  · exact h
  · obtain ⟨k1, k2, d, k3, k4, k5⟩ := h
    obtain ⟨d', m1, m2, m3, m4⟩ := mark_mem (bef := e.bef) (c := D.writers.length) k3
    exact ⟨k1, k2, d', m1, by rw [m2]; exact k4, by rw [m3, m4]; exact k5⟩
  · exact h
  · refine ⟨h.1, h.2.1, fun c S hS k2 k3 => ?_⟩
    rcases getElem?_snoc hS with hS | ⟨rfl, rfl⟩
    · have hc : c ≤ D.writers.length := by have := getElem?_lt hS; rw [hh.len] at this; omega
      rw [seen_mark hc]
      refine h.2.2 c S hS (fun i hi => k2 i ?_) fun e' he' ht => k3 e' (List.mem_append.2 (.inl he')) ?_
      · rw [List.drop_append_of_le_length hc]; exact List.mem_append.2 (.inl hi)
      · rw [List.take_append_of_le_length hc]; exact ht
    · rw [hh.len]
      refine hchk hk (k3 e (List.mem_append.2 (.inr (by simp))) ?_)
      rw [hh.len, List.take_of_length_le (by simp)]
      simp [he]
  · obtain ⟨k1, p, S, T, k2, k3, k4, k5, k6⟩ := h
    have hp := getElem?_lt k2
    refine ⟨k1, p, S, T, getElem?_app k2, getElem?_app k3, getElem?_app k4, by rw [seen_mark (Nat.le_of_lt hp)]; exact k5, ?_⟩
    rw [List.take_append_of_le_length (Nat.le_of_lt hp)]; exact k6

set_option maxHeartbeats 1000000 in
theorem dstep_inv {E : Env} {R : Recs} {all : List Oper} {fr0 : AFr} {S0 : AState} {k : Nat} {o : Oper} {D D' : DR} (h : DInv E R all fr0 S0 k D) (ho : all[k]? = some o) (hs : dstep E R all k o D = some D') : DInv E R all fr0 S0 (k + 1) D' := by
  obtain ⟨hB, hH, hK⟩ := h
  have hlt : ∀ x ∈ D.ents, x.ix < k := fun x hx => (hB.at_ix hx).2
  unfold dstep at hs
  split at hs
  · cases hs
  · rename_i bef hb
    simp only at hs
    split at hs
    case isFalse => cases hs
    rename_i htm
    have step := fun kind v => base_step hB ho hb htm kind v
    have hwf : ∀ v, aWanted all (D.fr.put o.dst v) o = aWanted all D.fr o := fun v => aWanted_congr fun t ht => (step .skip v).2.2 t (List.mem_append.2 (.inr ht))
    have hag : ∀ v, Agree o.op.operands.toList (D.fr.put o.dst v) D.fr := fun v => agree_of fun t ht => (step .skip v).2.2 t (List.mem_append.2 (.inl ht))
    have hfr : ∀ v x, x ∈ D.ents → KFact E R all { D with fr := D.fr.put o.dst v } x := fun v x hx => (hK x hx).frame (hB.tm x hx) ((step .skip v).2.1 x hx)
    split at hs
    · rename_i hw
      split at hs
      · -- a new thing
        rename_i hnew
        split at hs
        · rename_i v x hth
          split at hs
          · rename_i hc
            simp only [Bool.and_eq_true, decide_eq_true_eq, List.all_eq_true, Option.isNone_iff_eq_none] at hc
            cases hs
            have h64 : D.base + D.news.length < 65536 := by
              unfold newThing at hth
              split at hth
              · split at hth
                · rename_i hg; exact AState.get_lt hg
                · cases hth
              · cases hth
            have hb1 := (step .new v).1
            refine ⟨hb1, ?_, ?_⟩
            · refine DHeap.addNew (D := { D with fr := D.fr.put o.dst v, ents := D.ents ++ [_] }) (hH.more rfl (by simp)) rfl rfl rfl hc.1 h64 ?_ ?_ ?_ ?_
              · intro d hd e
                obtain ⟨z, h1, h2, _⟩ := hH.nix d hd
                have := hlt z h1; omega
              · exact ⟨_, List.mem_append.2 (.inr (List.mem_singleton.2 rfl)), rfl, rfl⟩
              · intro z hz hkz
                have := hb1.beflt z hz k hkz
                have := (hb1.at_ix hz).2
                omega
              · intro c S hS
                exact hc.2 S (List.mem_of_getElem? hS)
            · intro z hz
              rcases List.mem_append.1 hz with hz | hz
              · exact ((hfr v z hz).more).news (fun hkz => by have := hB.beflt z hz k hkz; have := hlt z hz; omega)
              · simp only [List.mem_singleton] at hz; subst hz
                refine ⟨by simp only; rw [hwf]; exact hw, hnew, _, List.mem_cons_self, rfl, ?_⟩
                simp only
                rw [newThing_congr (hag v)]; exact hth
          · cases hs
        · cases hs
      · split at hs
        · cases hs
        · rename_i S hS
          split at hs
          · rename_i hrd
            split at hs
            · rename_i v S1 hop
              obtain rfl := reader_same hrd hop
              split at hs
              · -- a look
                rename_i hlk
                split at hs
                · rename_i hall
                  cases hs
                  refine ⟨(step .look v).1, hH.more rfl (by simp), ?_⟩
                  intro z hz
                  rcases List.mem_append.1 hz with hz | hz
                  · exact (hfr v z hz).more
                  · simp only [List.mem_singleton] at hz; subst hz
                    refine ⟨by simp only; rw [hwf]; exact hw, hrd, fun c T hT k2 _ => ?_⟩
                    simp only at hT k2 ⊢
                    rw [aop_congr (hag v)]
                    by_cases hcl : c + 1 < D.chain.length
                    · have := lookSame_ok hrd (lookAll_ok hall c T hT hcl k2)
                      simpa using this
                    · have : c = D.writers.length := by have := getElem?_lt hT; have := hH.len; omega
                      subst this
                      rw [hS] at hT; cases hT
                      exact hop
                · cases hs
              · -- a reader that does not look
                rename_i hlk
                cases hs
                refine ⟨(step .read v).1, hH.more rfl (by simp), ?_⟩
                intro z hz
                rcases List.mem_append.1 hz with hz | hz
                · exact (hfr v z hz).more
                · simp only [List.mem_singleton] at hz; subst hz
                  refine ⟨by simp only; rw [hwf]; exact hw, fun T => ?_⟩
                  simp only
                  rw [aop_congr (hag v)]
                  exact reader_free hrd (by simpa using hlk) hop T
            · cases hs
          · -- a writer
            split at hs
            · rename_i hwr
              simp only [Bool.and_eq_true, List.all_eq_true, List.contains_iff_mem] at hwr
              split at hs
              · rename_i v S' hop
                split at hs
                · rename_i hc
                  simp only [Bool.and_eq_true, List.all_eq_true, Bool.or_eq_true, Option.isNone_iff_eq_none] at hc
                  cases hs
                  let e : Ent := { ix := k, op := o, bef, tmps := operTmps o.op.operands.toList ++ guardTmps all o, kind := .write, val := v }
                  refine ⟨(step .write v).1, hH.addWriter (e := e) rfl rfl hlt ?_, ?_⟩
                  · intro d hd hg
                    rcases hc.1 d hd with h1 | h1
                    · rw [hg] at h1; cases h1
                    · exact h1
                  · intro z hz
                    rcases List.mem_append.1 hz with hz | hz
                    · have hz0 := hfr v z hz
                      refine KFact.addWriter (D := { D with fr := D.fr.put o.dst v }) (e := e) (S0 := S0) (k := k) ⟨hH.base, hH.chain0, hH.len, hH.wr, hH.wnd, hH.wk, hH.news, hH.nuq, hH.nix, hH.nid, hH.ngone, hH.nseen, hH.fresh⟩ hz0 rfl ?_
                      intro hkz hnb
                      have hrz : isReader z.op.op = true := by
                        have := hK z hz
                        unfold KFact at this
                        rw [hkz] at this
                        exact this.2.1
                      have hag' : Agree z.op.op.operands.toList (D.fr.put o.dst v) D.fr := agree_of fun t ht => (step .skip v).2.1 z hz t (by rw [hB.tm z hz]; exact List.mem_append.2 (.inl ht))
                      rw [aop_congr hag']
                      rcases hc.2 z hz with (h1 | h1) | h1
                      · rw [hkz] at h1; cases h1
                      · exact absurd (List.contains_iff_mem.1 h1) hnb
                      · exact lookSame_ok hrz h1
                    · simp only [List.mem_singleton] at hz; subst hz
                      have hlen := hH.len
                      refine ⟨by simp only; rw [hwf]; exact hw, D.writers.length, S, S', by simp, getElem?_app hS, by simp [← hlen], ?_, ?_⟩
                      · simp only
                        rw [seen_mark (Nat.le_refl _), aoperV_congr (hag v)]; exact hop
                      · intro i hi
                        simp only [List.take_append_of_le_length (Nat.le_refl _), List.take_length] at hi
                        exact hwr.2 i hi
                · cases hs
              · cases hs
            · cases hs
    · -- left out
      rename_i hw
      cases hs
      refine ⟨(step .skip undefA).1, hH.more rfl (by simp), ?_⟩
      intro z hz
      rcases List.mem_append.1 hz with hz | hz
      · exact (hfr undefA z hz).more
      · simp only [List.mem_singleton] at hz; subst hz
        exact ⟨by simp only; rw [hwf]; simpa using hw, rfl⟩

end Go.AM

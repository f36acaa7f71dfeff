/- A part of the proof that selvagelaw22.LinesScript answers true at every text. -/
import Derived.Test.YtpmbnnobfjjpaaaGreatDoorWc
namespace Go.Proofs
set_option linter.unusedVariables false
set_option linter.unusedSimpArgs false
open Go.RowKit Go.Lns
set_option maxHeartbeats 2000000 in
theorem ref_neg (s : ByteArray) (w : World) (hs : s.size ≤ 400) (h0 : 0 < s.size) (h1 : ((s[0].toNat : Int) == 45) = true) :
    Calls Tryz.prog 14 #[.string s] w (RefPost s w) := by
  have hn : Hid (negB s = true) := Lib.hid (by rw [negB_of s h0, ← u8_eq s[0] 45 45 (by decide)]; exact h1)
  have hd : Hid (digB s = s.extract 1 s.size) := Lib.hid (by unfold digB; rw [hn.out]; rfl)
  have hz2 : Hid ((s.extract 1 s.size).size = s.size - 1) := Lib.hid (by simp)
  have hn48 : ((s[0].toNat : Int) == 48) = false := by
    have : (s[0].toNat : Int) = 45 := by simpa using h1
    rw [this]; decide
  have hq : (!s.toList == [48]) = true := by rw [toList_ne' s h0 hn48]; rfl
  by_cases hs1 : s.size = 1
  · have H2 : Hid (fmtB s = false) := Lib.hid (fmtB_nil s _ hd.out (by have := hz2.out; omega))
    have hz3 : s.size - 1 = 0 := by omega
    clear hs1
    go_enter Tryz.func14, Tryz.ntmps14
    go_wp2
    all_goals refine bodyPost_ret (v := .tuple #[.int .i64 0, .int .i64 1]) (by simp [results, Tryz.results14, go_sem]) rfl ⟨0, 1, rfl, spec_bad H2.out 0, rfl⟩
  · have hz0 : 0 < (s.extract 1 s.size).size := by have := hz2.out; omega
    have hz3 : ¬ s.size - 1 = 0 := by omega
    have hz4 : (((s.size - 1 : Nat) : Int) == 0) = false := by simp; omega
    by_cases h48 : (((s.extract 1 s.size)[0].toNat : Int) == 48) = true
    · have H2 : Hid (fmtB s = false) := Lib.hid (fmtB_head s _ hd.out hz0 (by rw [← u8_eq (s.extract 1 s.size)[0] 48 48 (by decide)]; exact h48) (.inr hn.out))
      go_enter Tryz.func14, Tryz.ntmps14
      go_wp2
      all_goals refine bodyPost_ret (v := .tuple #[.int .i64 0, .int .i64 1]) (by simp [results, Tryz.results14, go_sem]) rfl ⟨0, 1, rfl, spec_bad H2.out 0, rfl⟩
    · have hfirst : Hid (¬ (((s.extract 1 s.size)[0].toNat : Int) = 48)) := Lib.hid (by simpa using h48)
      have H : Hid (digs (s.extract 1 s.size) (s.size - 1) → fmtB s = true) := Lib.hid (fun h => fmtB_yes s _ hd.out hz0 (fun e => by rw [← u8_eq (s.extract 1 s.size)[0] 48 48 (by decide)] at e; exact absurd e h48) (by rw [hz2.out]; exact h))
      have h48' : (((s.extract 1 s.size)[0].toNat : Int) == 48) = false := by simpa using h48
      have hds : (s.extract 1 s.size).size < s.size := by have := hz2.out; omega
      have hds4 : (s.extract 1 s.size).size ≤ 400 := by omega
      have H' : Hid (digs (s.extract 1 s.size) (s.extract 1 s.size).size → fmtB s = true) := Lib.hid (by rw [hz2.out]; exact H.out)
      clear H hz2 hs1
      have H := H'; clear H'
      have hz2 : Hid True := Lib.hid trivial
      go_enter Tryz.func14, Tryz.ntmps14
      go_wp2
      obtain ⟨d, hde⟩ : ∃ d, s.extract 1 s.size = d := ⟨_, rfl⟩
      clear hz3 hz4 hq hn48 h48 h48'
      simp only [hde] at hd hfirst hds hds4 H ⊢
      go_loop [5] (fun i => ∃ k : Nat, k ≤ d.size ∧ i = .int .i64 k ∧ digs d k) (fun i => d.size - (intOf i).toNat)
      case atStart => exact ⟨0, Nat.zero_le _, rfl, fun j hj => by omega⟩
      case round =>
        obtain ⟨k, hk, rfl, hg⟩ := hrel
        by_cases hlt : k < d.size
        · have hlt' : k < d.size := by have := hz2.out; omega
          by_cases hc : 48 ≤ d[k].toNat ∧ d[k].toNat ≤ 57
          · obtain ⟨c1, c2⟩ := hc
            have c1' : ((d[k].toNat : Int) < 48) ↔ False := iff_false_intro (by omega)
            have c2' : ((d[k].toNat : Int) > 57) ↔ False := iff_false_intro (by omega)
            have hg' : Hid (digs d (k + 1)) := Lib.hid (by intro j hj hl; by_cases e : j = k; (subst e; exact ⟨c1, c2⟩); exact hg j (by omega) hl)
            clear hg c1 c2
            go_wp2
            all_goals
              go_round
              case rel => exact ⟨k + 1, by omega, by go_num, hg'.out⟩
              case measure => simp [intOf]; omega
          · have H2 : Hid (fmtB s = false) := Lib.hid (fmtB_all s _ hd.out (not_digs d k hlt' hc))
            clear hg
            by_cases c1 : d[k].toNat < 48
            · have c1' : ((d[k].toNat : Int) < 48) := by omega
              clear hc c1
              go_wp2
              all_goals refine bodyPost_ret (v := .tuple #[.int .i64 0, .int .i64 1]) (by simp [results, Tryz.results14, go_sem]) rfl ⟨0, 1, rfl, spec_bad H2.out 0, rfl⟩
            · have c1' : ((d[k].toNat : Int) < 48) ↔ False := iff_false_intro (by omega)
              have c2' : ((d[k].toNat : Int) > 57) := by omega
              clear hc c1
              go_wp2
              all_goals refine bodyPost_ret (v := .tuple #[.int .i64 0, .int .i64 1]) (by simp [results, Tryz.results14, go_sem]) rfl ⟨0, 1, rfl, spec_bad H2.out 0, rfl⟩
        · have hk' : k = d.size := by omega
          subst hk'
          have HG := Lib.hid hg
          have HF := H.out hg
          have HF := Lib.hid HF
          clear hlt hg H
          by_cases h19 : 19 < d.size
          · have H3 : Hid (RefSpec s 0 13) := Lib.hid (spec_big HF.out hd.out (by have := hz2.out; omega) (.inl (by decide)))
            go_wp2
            refine bodyPost_ret (v := .tuple #[.int .i64 0, .int .i64 13]) (by simp [results, Tryz.results14, go_sem]) rfl ⟨0, 13, rfl, H3.out, rfl⟩
          · have h19' : ((19 : Int) < ((d.size : Nat) : Int)) ↔ False := iff_false_intro (by omega)
            by_cases h9 : d.size ≤ 9
            · have H3 : Hid (RefSpec s (if negB s then -(valP d d.size) else valP d d.size) 0) := Lib.hid (spec_small HF.out hd.out (by have := hz2.out; omega))
              go_wp2
              go_loop [6, 7, 8] (fun a b i => ∃ k : Nat, k ≤ d.size ∧ i = .int .i64 k ∧ a = .int .i64 0 ∧ b = .int .i64 (valP d k)) (fun _ _ i => d.size - (intOf i).toNat)
              case atStart => exact ⟨0, Nat.zero_le _, rfl, rfl, rfl⟩
              case round =>
                obtain ⟨k, hk, rfl, rfl, rfl⟩ := hrel
                by_cases hlt : k < d.size
                · have hlt' : k < d.size := by have := hz2.out; omega
                  have hdg := HG.out k hlt hlt'
                  have hd1' : 48 ≤ (d[k].toNat : Int) := by omega
                  have hd2' : (d[k].toNat : Int) ≤ 57 := by omega
                  have hv := valP_bd d k (fun j hj => HG.out j (by omega))
                  have hp := pow_small k 8 (by omega)
                  have hv1 : 0 ≤ valP d k := hv.1
                  have hv2 : valP d k ≤ 100000000 := by have := hv.2; simp at hp; omega
                  have HE : Hid (valP d (k + 1) = 10 * valP d k + ((d[k].toNat : Int) - 48)) := Lib.hid (by rw [← dv_eq _ _ hlt']; rfl)
                  have ht : ((9 : Int) < ((d.size : Nat) : Int) - (k : Int)) ↔ False := iff_false_intro (by omega)
                  have ht' : ¬ ((9 : Int) < ((d.size : Nat) : Int) - (k : Int)) := by omega
                  clear hdg hv hp
                  go_wp2
                  all_goals
                    go_round
                    case rel => exact ⟨k + 1, by omega, by go_num, rfl, by rw [HE.out]⟩
                    case measure => simp [intOf]; omega
                · have hk' : k = d.size := by omega
                  subst hk'
                  have hv := valP_bd d d.size HG.out
                  have hp := pow_small d.size 9 (by omega)
                  have hv1 : 0 ≤ valP d d.size := hv.1
                  have hv2 : valP d d.size ≤ 1000000000 := by have := hv.2; simp at hp; omega
                  have HN : Hid (RefSpec s (-(valP d d.size)) 0) := Lib.hid (by have h := H3.out; rw [hn.out] at h; exact h)
                  clear hv hp hlt
                  go_wp2
                  refine bodyPost_ret (v := .tuple #[.int .i64 (-(valP d d.size)), .int .i64 0]) (by simp [results, Tryz.results14, go_sem]) rfl ⟨_, 0, rfl, HN.out, rfl⟩
            · have H3 : Hid (∀ n er : Int, (er ≠ 0 ∨ n < -999999999 ∨ 999999999 < n) → RefSpec s n er) := Lib.hid (fun n er h => spec_big HF.out hd.out (by have := hz2.out; omega) h)
              go_wp2
              go_loop [6, 7, 8] (fun a b i => ∃ (k : Nat) (h l : Int), k ≤ d.size ∧ i = .int .i64 k ∧ a = .int .i64 h ∧ b = .int .i64 l ∧ 0 ≤ h ∧ 0 ≤ l ∧ (0 < k → 0 < h) ∧ Hid (k ≤ d.size - 9 → h < 10 ^ k ∧ l = 0) ∧ Hid (d.size - 9 ≤ k → h < 10 ^ (d.size - 9) ∧ l < 10 ^ (k - (d.size - 9)))) (fun _ _ i => d.size - (intOf i).toNat)
              case atStart => exact ⟨0, 0, 0, Nat.zero_le _, rfl, rfl, rfl, by omega, by omega, by omega, Lib.hid (fun _ => ⟨by decide, rfl⟩), Lib.hid (fun e => by omega)⟩
              case round =>
                obtain ⟨k, h, l, hk, rfl, rfl, rfl, hh0, hl0, hh1, HA, HB⟩ := hrel
                by_cases hlt : k < d.size
                · have hlt' : k < d.size := by have := hz2.out; omega
                  have hdg := HG.out k hlt hlt'
                  have hd1' : 48 ≤ (d[k].toNat : Int) := by omega
                  have hd2' : (d[k].toNat : Int) ≤ 57 := by omega
                  clear hdg
                  by_cases ht : k < d.size - 9
                  · have hp := pow_small k 9 (by omega)
                    have hh2 : h ≤ 1000000000 := by have := (HA.out (by omega)).1; simp at hp; omega
                    have ht' : ((9 : Int) < ((d.size : Nat) : Int) - (k : Int)) := by omega
                    have HA' : Hid (k + 1 ≤ d.size - 9 → 10 * h + ((d[k].toNat : Int) - 48) < 10 ^ (k + 1) ∧ l = 0) := Lib.hid (fun _ => by
                      obtain ⟨q1, q2⟩ := HA.out (by omega)
                      refine ⟨?_, q2⟩
                      rw [Int.pow_succ]; omega)
                    have HB' : Hid (d.size - 9 ≤ k + 1 → 10 * h + ((d[k].toNat : Int) - 48) < 10 ^ (d.size - 9) ∧ l < 10 ^ (k + 1 - (d.size - 9))) := Lib.hid (fun e => by
                      obtain ⟨q1, q2⟩ := HA'.out (by omega)
                      have : d.size - 9 = k + 1 := by omega
                      rw [this, q2]; refine ⟨q1, ?_⟩; simp)
                    have hpos : 0 < 10 * h + ((d[k].toNat : Int) - 48) := by
                      by_cases hk0 : k = 0
                      · subst hk0; have := hfirst.out; omega
                      · have := hh1 (by omega); omega
                    clear hp HA HB hh1
                    go_wp2
                    all_goals
                      go_round
                      case rel => exact ⟨k + 1, 10 * h + ((d[k].toNat : Int) - 48), l, by omega, by go_num, rfl, rfl, by omega, by omega, fun _ => hpos, HA', HB'⟩
                      case measure => simp [intOf]; omega
                  · have hp := pow_small (k - (d.size - 9)) 8 (by omega)
                    have hp2 := pow_small (d.size - 9) 10 (by omega)
                    have hl2 : l ≤ 100000000 := by have := (HB.out (by omega)).2; simp at hp; omega
                    have ht' : ((9 : Int) < ((d.size : Nat) : Int) - (k : Int)) ↔ False := iff_false_intro (by omega)
                    have HA' : Hid (k + 1 ≤ d.size - 9 → h < 10 ^ (k + 1) ∧ 10 * l + ((d[k].toNat : Int) - 48) = 0) := Lib.hid (fun e => by omega)
                    have HB' : Hid (d.size - 9 ≤ k + 1 → h < 10 ^ (d.size - 9) ∧ 10 * l + ((d[k].toNat : Int) - 48) < 10 ^ (k + 1 - (d.size - 9))) := Lib.hid (fun _ => by
                      obtain ⟨q1, q2⟩ := HB.out (by omega)
                      refine ⟨q1, ?_⟩
                      have e : k + 1 - (d.size - 9) = (k - (d.size - 9)) + 1 := by omega
                      rw [e, Int.pow_succ]; omega)
                    have hh2 : h ≤ 10000000000 := by have := (HB.out (by omega)).1; simp at hp2; omega
                    have hh3 : 0 < h := hh1 (by omega)
                    clear hp hp2 HA HB hh1
                    go_wp2
                    all_goals
                      go_round
                      case rel => exact ⟨k + 1, h, 10 * l + ((d[k].toNat : Int) - 48), by omega, by go_num, rfl, rfl, by omega, by omega, fun _ => hh3, HA', HB'⟩
                      case measure => simp [intOf]; omega
                · have hk' : k = d.size := by omega
                  subst hk'
                  have hp := pow_small (d.size - (d.size - 9)) 9 (by omega)
                  have hp2 := pow_small (d.size - 9) 10 (by omega)
                  have hl2 : l ≤ 1000000000 := by have := (HB.out (by omega)).2; simp at hp; omega
                  have hh2 : h ≤ 10000000000 := by have := (HB.out (by omega)).1; simp at hp2; omega
                  have hh3 : 0 < h := hh1 (by omega)
                  clear hp hp2 HA HB hh1 hlt
                  have HX : Hid (RefSpec s 0 13) := Lib.hid (H3.out 0 13 (.inl (by decide)))
                  have HY : Hid (RefSpec s (-(h * 1000000000 + l)) 0) := Lib.hid (H3.out _ _ (by omega))
                  have HW : Hid (h = 4611686018 → RefSpec s (-(4611686018000000000 + l)) 0) := Lib.hid (fun e => by have := HY.out; rw [e] at this; exact this)
                  clear H3
                  by_cases he : h = 4611686018
                  · have HW' := Lib.hid (HW.out he)
                    clear HW HY hh3
                    subst he
                    go_wp2
                    all_goals first
                      | (refine bodyPost_ret (v := .tuple #[.int .i64 0, .int .i64 13]) ?_ rfl ⟨0, 13, rfl, HX.out, rfl⟩; (simp [results, Tryz.results14, go_sem] <;> omega))
                      | (refine bodyPost_ret (v := .tuple #[.int .i64 (-(4611686018000000000 + l)), .int .i64 0]) ?_ rfl ⟨_, 0, rfl, HW'.out, rfl⟩; (simp [results, Tryz.results14, go_sem] <;> omega))
                  · clear HW
                    go_wp2
                    all_goals first
                      | (refine bodyPost_ret (v := .tuple #[.int .i64 0, .int .i64 13]) ?_ rfl ⟨0, 13, rfl, HX.out, rfl⟩; (simp [results, Tryz.results14, go_sem] <;> omega))
                      | (refine bodyPost_ret (v := .tuple #[.int .i64 (-(h * 1000000000 + l)), .int .i64 0]) ?_ rfl ⟨_, 0, rfl, HY.out, rfl⟩; (simp [results, Tryz.results14, go_sem] <;> omega))

theorem ref_nil (s : ByteArray) (w : World) (h0 : s.size = 0) : Calls Tryz.prog 14 #[.string s] w (RefPost s w) := by
  have H2 : Hid (fmtB s = false) := Lib.hid (fmtB_nil s s (by unfold digB; rw [negB_empty s h0]; rfl) h0)
  have hz : (0 : Nat) < s.size ↔ False := by simp [h0]
  go_enter Tryz.func14, Tryz.ntmps14
  go_wp2
  all_goals refine bodyPost_ret (v := .tuple #[.int .i64 0, .int .i64 1]) (by simp [results, Tryz.results14, go_sem]) rfl ⟨0, 1, rfl, spec_bad H2.out 0, rfl⟩

theorem walk_refread (s : ByteArray) (w : World) (hs : s.size ≤ 400) : Calls Tryz.prog 14 #[.string s] w (RefPost s w) := by
  by_cases h0 : s.size = 0
  · exact ref_nil s w h0
  · by_cases h1 : ((s[0].toNat : Int) == 45) = true
    · exact ref_neg s w hs (by omega) h1
    · exact ref_pos s w hs (by omega) (by simpa using h1)
end Go.Proofs

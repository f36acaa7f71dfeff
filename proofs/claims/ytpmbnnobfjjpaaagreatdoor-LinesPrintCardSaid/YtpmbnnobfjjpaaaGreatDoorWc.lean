/- A part of the proof that selvagelaw22.LinesScript answers true at every text. -/
import Derived.Test.YtpmbnnobfjjpaaaGreatDoorWb
namespace Go.Proofs
set_option linter.unusedVariables false
set_option linter.unusedSimpArgs false
open Go.RowKit Go.Lns

def dv (d : ByteArray) (k : Nat) : Int := if h : k < d.size then (d[k].toNat : Int) - 48 else 0
def valP (d : ByteArray) : Nat → Int
  | 0 => 0
  | k + 1 => 10 * valP d k + dv d k
theorem dv_eq (d : ByteArray) (k : Nat) (h : k < d.size) : dv d k = (d[k].toNat : Int) - 48 := dif_pos h
theorem valP_bd (d : ByteArray) : ∀ (k : Nat), digs d k → 0 ≤ valP d k ∧ valP d k < 10 ^ k
  | 0, _ => ⟨Int.le_refl _, by simp [valP]⟩
  | k + 1, h => by
    obtain ⟨h1, h2⟩ := valP_bd d k (fun j hj => h j (by omega))
    have h3 : 0 ≤ dv d k ∧ dv d k ≤ 9 := by
      unfold dv
      split
      · rename_i hk; have := h k (by omega) hk; omega
      · omega
    have e : valP d (k + 1) = 10 * valP d k + dv d k := rfl
    rw [e, show (10 : Int) ^ (k + 1) = 10 * 10 ^ k by rw [Int.pow_succ, Int.mul_comm]]
    omega
theorem pow_small (k n : Nat) (h : k ≤ n) : (10 : Int) ^ k ≤ 10 ^ n := by exact_mod_cast Nat.pow_le_pow_right (by omega) h

def wordVal (s : ByteArray) : Int := if negB s then -(valP (digB s) (digB s).size) else valP (digB s) (digB s).size
def RefSpec (s : ByteArray) (n er : Int) : Prop :=
  (fmtB s = false → er = 1) ∧ (fmtB s = true → (digB s).size ≤ 9 → er = 0 ∧ n = wordVal s) ∧ (fmtB s = true → 9 < (digB s).size → er ≠ 0 ∨ n < -999999999 ∨ 999999999 < n)
def RefPost (s : ByteArray) (w : World) (e : Ending) (w' : World) : Prop := ∃ n er : Int, e = .returned (.tuple #[.int .i64 n, .int .i64 er]) ∧ RefSpec s n er ∧ w = w'

theorem spec_bad {s : ByteArray} (h : fmtB s = false) (n : Int) : RefSpec s n 1 := ⟨fun _ => rfl, (fun e => by rw [h] at e; cases e), (fun e => by rw [h] at e; cases e)⟩
theorem spec_small {s d : ByteArray} (h : fmtB s = true) (hd : digB s = d) (h9 : d.size ≤ 9) : RefSpec s (if negB s then -(valP d d.size) else valP d d.size) 0 :=
  ⟨(fun e => by rw [h] at e; cases e), (fun _ _ => ⟨rfl, by unfold wordVal; rw [hd]⟩), (fun _ e => by rw [hd] at e; omega)⟩
theorem spec_big {s d : ByteArray} (h : fmtB s = true) (hd : digB s = d) (h9 : 9 < d.size) {n er : Int} (hn : er ≠ 0 ∨ n < -999999999 ∨ 999999999 < n) : RefSpec s n er :=
  ⟨(fun e => by rw [h] at e; cases e), (fun _ e => by rw [hd] at e; omega), (fun _ _ => hn)⟩

theorem toList_ne (s : ByteArray) (h : s.size ≠ 1) : (s.toList == [48]) = false := by
  rw [beq_eq_false_iff_ne]; intro e
  have : s.toList.length = 1 := by rw [e]; rfl
  rw [Lib.toList_data, Array.length_toList] at this
  exact h this
theorem toList_ne' (s : ByteArray) (h0 : 0 < s.size) (h : ((s[0].toNat : Int) == 48) = false) : (s.toList == [48]) = false := by
  rw [beq_eq_false_iff_ne]; intro e
  rw [Lib.toList_data] at e
  have h1 : s.data.toList[0]? = some s[0] := by rw [List.getElem?_eq_getElem (by simpa using h0)]; rfl
  rw [e] at h1
  have : s[0] = 48 := by simpa using h1.symm
  rw [this] at h; exact absurd h (by decide)
theorem toList_eq (s : ByteArray) (h1 : s.size = 1) (h : ((s[0].toNat : Int) == 48) = true) : (s.toList == [48]) = true := by
  rw [beq_iff_eq, Lib.toList_data]
  have e : s[0] = 48 := by
    have := (u8_eq s[0] 48 48 (by decide)).symm.trans h
    simpa using this
  apply List.ext_getElem
  · rw [Array.length_toList]; exact h1
  · intro i h2 h3
    have : i = 0 := by simp at h3; exact h3
    subst this
    exact e

set_option maxHeartbeats 2000000 in
theorem ref_pos (s : ByteArray) (w : World) (hs : s.size ≤ 400) (h0 : 0 < s.size) (h1 : ((s[0].toNat : Int) == 45) = false) :
    Calls Tryz.prog 14 #[.string s] w (RefPost s w) := by
  have hn : Hid (negB s = false) := Lib.hid (by rw [negB_of s h0, ← u8_eq s[0] 45 45 (by decide)]; exact h1)
  have hd : Hid (digB s = s) := Lib.hid (by unfold digB; rw [hn.out]; rfl)
  have hz2 : Hid (s.size = s.size) := Lib.hid rfl
  have hz : ((s.size : Int) == 0) = false := by simp; intro e; have : s.size = 0 := by rw [e]; rfl
                                                omega
  by_cases h48 : ((s[0].toNat : Int) == 48) = true
  · by_cases hl : 1 < s.size
    · have H2 : Hid (fmtB s = false) := Lib.hid (fmtB_head s s hd.out h0 (by rw [← u8_eq s[0] 48 48 (by decide)]; exact h48) (.inl hl))
      have hq : (!s.toList == [48]) = true := by rw [toList_ne s (by omega)]; rfl
      go_enter Tryz.func14, Tryz.ntmps14
      go_wp2
      refine bodyPost_ret (v := .tuple #[.int .i64 0, .int .i64 1]) (by simp [results, Tryz.results14, go_sem]) rfl ⟨0, 1, rfl, spec_bad H2.out 0, rfl⟩
    · have H : Hid (digs s s.size → fmtB s = true) := Lib.hid (fun h => fmtB_yes s s hd.out h0 (fun _ => ⟨hl, hn.out⟩) h)
      have hq : (!s.toList == [48]) = false := by rw [toList_eq s (by omega) h48]; rfl
      have hsz1 : Hid (s.size ≤ 1) := Lib.hid (by omega)
      clear hl
      go_enter Tryz.func14, Tryz.ntmps14
      go_wp2
      go_loop [5] (fun i => ∃ k : Nat, k ≤ s.size ∧ i = .int .i64 k ∧ digs s k) (fun i => s.size - (intOf i).toNat)
      case atStart => exact ⟨0, Nat.zero_le _, rfl, fun j hj => by omega⟩
      case round =>
        obtain ⟨k, hk, rfl, hg⟩ := hrel
        by_cases hlt : k < s.size
        · have hlt' : k < s.size := by have := hz2.out; omega
          by_cases hc : 48 ≤ s[k].toNat ∧ s[k].toNat ≤ 57
          · obtain ⟨c1, c2⟩ := hc
            have c1' : ((s[k].toNat : Int) < 48) ↔ False := iff_false_intro (by omega)
            have c2' : ((s[k].toNat : Int) > 57) ↔ False := iff_false_intro (by omega)
            have hg' : Hid (digs s (k + 1)) := Lib.hid (by intro j hj hl; by_cases e : j = k; (subst e; exact ⟨c1, c2⟩); exact hg j (by omega) hl)
            clear hg c1 c2
            go_wp2
            all_goals
              go_round
              case rel => exact ⟨k + 1, by omega, by go_num, hg'.out⟩
              case measure => simp [intOf]; omega
          · have H2 : Hid (fmtB s = false) := Lib.hid (fmtB_all s _ hd.out (not_digs s k hlt' hc))
            clear hg
            by_cases c1 : s[k].toNat < 48
            · have c1' : ((s[k].toNat : Int) < 48) := by omega
              clear hc c1
              go_wp2
              all_goals refine bodyPost_ret (v := .tuple #[.int .i64 0, .int .i64 1]) (by simp [results, Tryz.results14, go_sem]) rfl ⟨0, 1, rfl, spec_bad H2.out 0, rfl⟩
            · have c1' : ((s[k].toNat : Int) < 48) ↔ False := iff_false_intro (by omega)
              have c2' : ((s[k].toNat : Int) > 57) := by omega
              clear hc c1
              go_wp2
              all_goals refine bodyPost_ret (v := .tuple #[.int .i64 0, .int .i64 1]) (by simp [results, Tryz.results14, go_sem]) rfl ⟨0, 1, rfl, spec_bad H2.out 0, rfl⟩
        · have hk' : k = s.size := by omega
          subst hk'
          have HG := Lib.hid hg
          have HF := H.out hg
          have HF := Lib.hid HF
          clear hlt hg H
          by_cases h19 : 19 < s.size
          · have H3 : Hid (RefSpec s 0 13) := Lib.hid (spec_big HF.out hd.out (by have := hz2.out; omega) (.inl (by decide)))
            go_wp2
            refine bodyPost_ret (v := .tuple #[.int .i64 0, .int .i64 13]) (by simp [results, Tryz.results14, go_sem]) rfl ⟨0, 13, rfl, H3.out, rfl⟩
          · have h19' : ((19 : Int) < ((s.size : Nat) : Int)) ↔ False := iff_false_intro (by omega)
            by_cases h9 : s.size ≤ 9
            · have H3 : Hid (RefSpec s (if negB s then -(valP s s.size) else valP s s.size) 0) := Lib.hid (spec_small HF.out hd.out (by have := hz2.out; omega))
              go_wp2
              go_loop [6, 7, 8] (fun a b i => ∃ k : Nat, k ≤ s.size ∧ i = .int .i64 k ∧ a = .int .i64 0 ∧ b = .int .i64 (valP s k)) (fun _ _ i => s.size - (intOf i).toNat)
              case atStart => exact ⟨0, Nat.zero_le _, rfl, rfl, rfl⟩
              case round =>
                obtain ⟨k, hk, rfl, rfl, rfl⟩ := hrel
                by_cases hlt : k < s.size
                · have hlt' : k < s.size := by have := hz2.out; omega
                  have hdg := HG.out k hlt hlt'
                  have hd1' : 48 ≤ (s[k].toNat : Int) := by omega
                  have hd2' : (s[k].toNat : Int) ≤ 57 := by omega
                  have hv := valP_bd s k (fun j hj => HG.out j (by omega))
                  have hp := pow_small k 8 (by omega)
                  have hv1 : 0 ≤ valP s k := hv.1
                  have hv2 : valP s k ≤ 100000000 := by have := hv.2; simp at hp; omega
                  have HE : Hid (valP s (k + 1) = 10 * valP s k + ((s[k].toNat : Int) - 48)) := Lib.hid (by rw [← dv_eq _ _ hlt']; rfl)
                  have ht : ((9 : Int) < ((s.size : Nat) : Int) - (k : Int)) ↔ False := iff_false_intro (by omega)
                  have ht' : ¬ ((9 : Int) < ((s.size : Nat) : Int) - (k : Int)) := by omega
                  clear hdg hv hp
                  go_wp2
                  all_goals
                    go_round
                    case rel => exact ⟨k + 1, by omega, by go_num, rfl, by rw [HE.out]⟩
                    case measure => simp [intOf]; omega
                · have hk' : k = s.size := by omega
                  subst hk'
                  have hv := valP_bd s s.size HG.out
                  have hp := pow_small s.size 9 (by omega)
                  have hv1 : 0 ≤ valP s s.size := hv.1
                  have hv2 : valP s s.size ≤ 1000000000 := by have := hv.2; simp at hp; omega
                  have HN : Hid (RefSpec s (valP s s.size) 0) := Lib.hid (by have h := H3.out; rw [hn.out] at h; exact h)
                  clear hv hp hlt
                  go_wp2
                  refine bodyPost_ret (v := .tuple #[.int .i64 (valP s s.size), .int .i64 0]) (by simp [results, Tryz.results14, go_sem]) rfl ⟨_, 0, rfl, HN.out, rfl⟩
            · exact absurd hsz1.out (by omega)
  · have hfirst : Hid (¬ ((s[0].toNat : Int) = 48)) := Lib.hid (by simpa using h48)
    have H : Hid (digs s s.size → fmtB s = true) := Lib.hid (fun h => fmtB_yes s s hd.out h0 (fun e => by rw [← u8_eq s[0] 48 48 (by decide)] at e; exact absurd e h48) h)
    have h48' : ((s[0].toNat : Int) == 48) = false := by simpa using h48
    clear h48
    go_enter Tryz.func14, Tryz.ntmps14
    go_wp2
    go_loop [5] (fun i => ∃ k : Nat, k ≤ s.size ∧ i = .int .i64 k ∧ digs s k) (fun i => s.size - (intOf i).toNat)
    case atStart => exact ⟨0, Nat.zero_le _, rfl, fun j hj => by omega⟩
    case round =>
      obtain ⟨k, hk, rfl, hg⟩ := hrel
      by_cases hlt : k < s.size
      · have hlt' : k < s.size := by have := hz2.out; omega
        by_cases hc : 48 ≤ s[k].toNat ∧ s[k].toNat ≤ 57
        · obtain ⟨c1, c2⟩ := hc
          have c1' : ((s[k].toNat : Int) < 48) ↔ False := iff_false_intro (by omega)
          have c2' : ((s[k].toNat : Int) > 57) ↔ False := iff_false_intro (by omega)
          have hg' : Hid (digs s (k + 1)) := Lib.hid (by intro j hj hl; by_cases e : j = k; (subst e; exact ⟨c1, c2⟩); exact hg j (by omega) hl)
          clear hg c1 c2
          go_wp2
          all_goals
            go_round
            case rel => exact ⟨k + 1, by omega, by go_num, hg'.out⟩
            case measure => simp [intOf]; omega
        · have H2 : Hid (fmtB s = false) := Lib.hid (fmtB_all s _ hd.out (not_digs s k hlt' hc))
          clear hg
          by_cases c1 : s[k].toNat < 48
          · have c1' : ((s[k].toNat : Int) < 48) := by omega
            clear hc c1
            go_wp2
            all_goals refine bodyPost_ret (v := .tuple #[.int .i64 0, .int .i64 1]) (by simp [results, Tryz.results14, go_sem]) rfl ⟨0, 1, rfl, spec_bad H2.out 0, rfl⟩
          · have c1' : ((s[k].toNat : Int) < 48) ↔ False := iff_false_intro (by omega)
            have c2' : ((s[k].toNat : Int) > 57) := by omega
            clear hc c1
            go_wp2
            all_goals refine bodyPost_ret (v := .tuple #[.int .i64 0, .int .i64 1]) (by simp [results, Tryz.results14, go_sem]) rfl ⟨0, 1, rfl, spec_bad H2.out 0, rfl⟩
      · have hk' : k = s.size := by omega
        subst hk'
        have HG := Lib.hid hg
        have HF := H.out hg
        have HF := Lib.hid HF
        clear hlt hg H
        by_cases h19 : 19 < s.size
        · have H3 : Hid (RefSpec s 0 13) := Lib.hid (spec_big HF.out hd.out (by have := hz2.out; omega) (.inl (by decide)))
          go_wp2
          refine bodyPost_ret (v := .tuple #[.int .i64 0, .int .i64 13]) (by simp [results, Tryz.results14, go_sem]) rfl ⟨0, 13, rfl, H3.out, rfl⟩
        · have h19' : ((19 : Int) < ((s.size : Nat) : Int)) ↔ False := iff_false_intro (by omega)
          by_cases h9 : s.size ≤ 9
          · have H3 : Hid (RefSpec s (if negB s then -(valP s s.size) else valP s s.size) 0) := Lib.hid (spec_small HF.out hd.out (by have := hz2.out; omega))
            go_wp2
            go_loop [6, 7, 8] (fun a b i => ∃ k : Nat, k ≤ s.size ∧ i = .int .i64 k ∧ a = .int .i64 0 ∧ b = .int .i64 (valP s k)) (fun _ _ i => s.size - (intOf i).toNat)
            case atStart => exact ⟨0, Nat.zero_le _, rfl, rfl, rfl⟩
            case round =>
              obtain ⟨k, hk, rfl, rfl, rfl⟩ := hrel
              by_cases hlt : k < s.size
              · have hlt' : k < s.size := by have := hz2.out; omega
                have hdg := HG.out k hlt hlt'
                have hd1' : 48 ≤ (s[k].toNat : Int) := by omega
                have hd2' : (s[k].toNat : Int) ≤ 57 := by omega
                have hv := valP_bd s k (fun j hj => HG.out j (by omega))
                have hp := pow_small k 8 (by omega)
                have hv1 : 0 ≤ valP s k := hv.1
                have hv2 : valP s k ≤ 100000000 := by have := hv.2; simp at hp; omega
                have HE : Hid (valP s (k + 1) = 10 * valP s k + ((s[k].toNat : Int) - 48)) := Lib.hid (by rw [← dv_eq _ _ hlt']; rfl)
                have ht : ((9 : Int) < ((s.size : Nat) : Int) - (k : Int)) ↔ False := iff_false_intro (by omega)
                have ht' : ¬ ((9 : Int) < ((s.size : Nat) : Int) - (k : Int)) := by omega
                clear hdg hv hp
                go_wp2
                all_goals
                  go_round
                  case rel => exact ⟨k + 1, by omega, by go_num, rfl, by rw [HE.out]⟩
                  case measure => simp [intOf]; omega
              · have hk' : k = s.size := by omega
                subst hk'
                have hv := valP_bd s s.size HG.out
                have hp := pow_small s.size 9 (by omega)
                have hv1 : 0 ≤ valP s s.size := hv.1
                have hv2 : valP s s.size ≤ 1000000000 := by have := hv.2; simp at hp; omega
                have HN : Hid (RefSpec s (valP s s.size) 0) := Lib.hid (by have h := H3.out; rw [hn.out] at h; exact h)
                clear hv hp hlt
                go_wp2
                refine bodyPost_ret (v := .tuple #[.int .i64 (valP s s.size), .int .i64 0]) (by simp [results, Tryz.results14, go_sem]) rfl ⟨_, 0, rfl, HN.out, rfl⟩
          · have H3 : Hid (∀ n er : Int, (er ≠ 0 ∨ n < -999999999 ∨ 999999999 < n) → RefSpec s n er) := Lib.hid (fun n er h => spec_big HF.out hd.out (by have := hz2.out; omega) h)
            go_wp2
            go_loop [6, 7, 8] (fun a b i => ∃ (k : Nat) (h l : Int), k ≤ s.size ∧ i = .int .i64 k ∧ a = .int .i64 h ∧ b = .int .i64 l ∧ 0 ≤ h ∧ 0 ≤ l ∧ (0 < k → 0 < h) ∧ Hid (k ≤ s.size - 9 → h < 10 ^ k ∧ l = 0) ∧ Hid (s.size - 9 ≤ k → h < 10 ^ (s.size - 9) ∧ l < 10 ^ (k - (s.size - 9)))) (fun _ _ i => s.size - (intOf i).toNat)
            case atStart => exact ⟨0, 0, 0, Nat.zero_le _, rfl, rfl, rfl, by omega, by omega, by omega, Lib.hid (fun _ => ⟨by decide, rfl⟩), Lib.hid (fun e => by omega)⟩
            case round =>
              obtain ⟨k, h, l, hk, rfl, rfl, rfl, hh0, hl0, hh1, HA, HB⟩ := hrel
              by_cases hlt : k < s.size
              · have hlt' : k < s.size := by have := hz2.out; omega
                have hdg := HG.out k hlt hlt'
                have hd1' : 48 ≤ (s[k].toNat : Int) := by omega
                have hd2' : (s[k].toNat : Int) ≤ 57 := by omega
                clear hdg
                by_cases ht : k < s.size - 9
                · have hp := pow_small k 9 (by omega)
                  have hh2 : h ≤ 1000000000 := by have := (HA.out (by omega)).1; simp at hp; omega
                  have ht' : ((9 : Int) < ((s.size : Nat) : Int) - (k : Int)) := by omega
                  have HA' : Hid (k + 1 ≤ s.size - 9 → 10 * h + ((s[k].toNat : Int) - 48) < 10 ^ (k + 1) ∧ l = 0) := Lib.hid (fun _ => by
                    obtain ⟨q1, q2⟩ := HA.out (by omega)
                    refine ⟨?_, q2⟩
                    rw [Int.pow_succ]; omega)
                  have HB' : Hid (s.size - 9 ≤ k + 1 → 10 * h + ((s[k].toNat : Int) - 48) < 10 ^ (s.size - 9) ∧ l < 10 ^ (k + 1 - (s.size - 9))) := Lib.hid (fun e => by
                    obtain ⟨q1, q2⟩ := HA'.out (by omega)
                    have : s.size - 9 = k + 1 := by omega
                    rw [this, q2]; refine ⟨q1, ?_⟩; simp)
                  have hpos : 0 < 10 * h + ((s[k].toNat : Int) - 48) := by
                    by_cases hk0 : k = 0
                    · subst hk0; have := hfirst.out; omega
                    · have := hh1 (by omega); omega
                  clear hp HA HB hh1
                  go_wp2
                  all_goals
                    go_round
                    case rel => exact ⟨k + 1, 10 * h + ((s[k].toNat : Int) - 48), l, by omega, by go_num, rfl, rfl, by omega, by omega, fun _ => hpos, HA', HB'⟩
                    case measure => simp [intOf]; omega
                · have hp := pow_small (k - (s.size - 9)) 8 (by omega)
                  have hp2 := pow_small (s.size - 9) 10 (by omega)
                  have hl2 : l ≤ 100000000 := by have := (HB.out (by omega)).2; simp at hp; omega
                  have ht' : ((9 : Int) < ((s.size : Nat) : Int) - (k : Int)) ↔ False := iff_false_intro (by omega)
                  have HA' : Hid (k + 1 ≤ s.size - 9 → h < 10 ^ (k + 1) ∧ 10 * l + ((s[k].toNat : Int) - 48) = 0) := Lib.hid (fun e => by omega)
                  have HB' : Hid (s.size - 9 ≤ k + 1 → h < 10 ^ (s.size - 9) ∧ 10 * l + ((s[k].toNat : Int) - 48) < 10 ^ (k + 1 - (s.size - 9))) := Lib.hid (fun _ => by
                    obtain ⟨q1, q2⟩ := HB.out (by omega)
                    refine ⟨q1, ?_⟩
                    have e : k + 1 - (s.size - 9) = (k - (s.size - 9)) + 1 := by omega
                    rw [e, Int.pow_succ]; omega)
                  have hh2 : h ≤ 10000000000 := by have := (HB.out (by omega)).1; simp at hp2; omega
                  have hh3 : 0 < h := hh1 (by omega)
                  clear hp hp2 HA HB hh1
                  go_wp2
                  all_goals
                    go_round
                    case rel => exact ⟨k + 1, h, 10 * l + ((s[k].toNat : Int) - 48), by omega, by go_num, rfl, rfl, by omega, by omega, fun _ => hh3, HA', HB'⟩
                    case measure => simp [intOf]; omega
              · have hk' : k = s.size := by omega
                subst hk'
                have hp := pow_small (s.size - (s.size - 9)) 9 (by omega)
                have hp2 := pow_small (s.size - 9) 10 (by omega)
                have hl2 : l ≤ 1000000000 := by have := (HB.out (by omega)).2; simp at hp; omega
                have hh2 : h ≤ 10000000000 := by have := (HB.out (by omega)).1; simp at hp2; omega
                have hh3 : 0 < h := hh1 (by omega)
                clear hp hp2 HA HB hh1 hlt
                have HX : Hid (RefSpec s 0 13) := Lib.hid (H3.out 0 13 (.inl (by decide)))
                have HY : Hid (RefSpec s (h * 1000000000 + l) 0) := Lib.hid (H3.out _ _ (by omega))
                have HW : Hid (h = 4611686018 → RefSpec s (4611686018000000000 + l) 0) := Lib.hid (fun e => by have := HY.out; rw [e] at this; exact this)
                clear H3
                by_cases he : h = 4611686018
                · have HW' := Lib.hid (HW.out he)
                  clear HW HY hh3
                  subst he
                  go_wp2
                  all_goals first
                    | (refine bodyPost_ret (v := .tuple #[.int .i64 0, .int .i64 13]) ?_ rfl ⟨0, 13, rfl, HX.out, rfl⟩; (simp [results, Tryz.results14, go_sem] <;> omega))
                    | (refine bodyPost_ret (v := .tuple #[.int .i64 (4611686018000000000 + l), .int .i64 0]) ?_ rfl ⟨_, 0, rfl, HW'.out, rfl⟩; (simp [results, Tryz.results14, go_sem] <;> omega))
                · clear HW
                  go_wp2
                  all_goals first
                    | (refine bodyPost_ret (v := .tuple #[.int .i64 0, .int .i64 13]) ?_ rfl ⟨0, 13, rfl, HX.out, rfl⟩; (simp [results, Tryz.results14, go_sem] <;> omega))
                    | (refine bodyPost_ret (v := .tuple #[.int .i64 (h * 1000000000 + l), .int .i64 0]) ?_ rfl ⟨_, 0, rfl, HY.out, rfl⟩; (simp [results, Tryz.results14, go_sem] <;> omega))

end Go.Proofs

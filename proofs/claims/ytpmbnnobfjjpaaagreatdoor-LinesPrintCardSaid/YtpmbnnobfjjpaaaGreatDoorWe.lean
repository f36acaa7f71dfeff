/- A part of the proof that selvagelaw22.LinesScript answers true at every text. -/
import Derived.Test.YtpmbnnobfjjpaaaGreatDoorPl
import Derived.Test.YtpmbnnobfjjpaaaGreatDoorWd
import Derived.Test.YtpmbnnobfjjpaaaGreatDoorProg
import Derived.WalkKit
import Derived.WalkSpells
import Derived.Deep.QuietTactic
import Derived.BigQuiet
import Derived.Test.YtpmbnnobfjjpaaaGreatDoorLnsM
namespace Go.Proofs
set_option linter.unusedVariables false
set_option linter.unusedSimpArgs false
open Go.RowKit Go.Lns

theorem Tryz_info3 : (Tryz.prog.info? 3).map (fun i => (i.zero, i.size, i.bytes)) = some (some (.int .i64 0), 1, 8) := by kernel_rfl

theorem refread_some (s : ByteArray) (v : Int) (w : World) (hs : s.size ≤ 400) (h : wordO s = some v) : Calls Tryz.prog 14 #[.string s] w fun e w' => e = .returned (.tuple #[.int .i64 v, .int .i64 0]) ∧ w = w' :=
  (walk_refread s w hs).mono fun _ _ ⟨n, er, he, hr, hw⟩ => by
    obtain ⟨h1, h2, _⟩ := ref_some hr h
    exact ⟨by rw [he, h1, h2], hw⟩
theorem refread_none (s : ByteArray) (w : World) (hs : s.size ≤ 400) (h : wordO s = none) : Calls Tryz.prog 14 #[.string s] w fun e w' => ∃ n er : Int, e = .returned (.tuple #[.int .i64 n, .int .i64 er]) ∧ Hid (er ≠ 0 ∨ n < -999999999 ∨ 999999999 < n) ∧ w = w' :=
  (walk_refread s w hs).mono fun _ _ ⟨n, er, he, hr, hw⟩ => ⟨n, er, he, Lib.hid (ref_none hr h), hw⟩
theorem word_bd {s : ByteArray} {v : Int} (h : wordO s = some v) : -999999999 ≤ v ∧ v ≤ 999999999 := by
  unfold wordO at h
  split at h
  · rename_i hc; cases h; exact wordVal_bd hc.1 hc.2
  · cases h
theorem extract_small (s : ByteArray) (f k : Nat) (h : s.size ≤ 300) : (s.extract f k).size ≤ 400 := by rw [ByteArray.size_extract]; omega

def ScriptPost (s : ByteArray) (w : World) (e : Ending) (w' : World) : Prop :=
  ∃ v, e = .returned (.tuple #[v, .int .i64 (errOf (script s.data.toList))]) ∧ w'.ownsRow w.heap.size 3 1 v (outOf (script s.data.toList)).length ((outOf (script s.data.toList)).map (Value.int .i64)) ∧ Below w.heap.size w w'

/-- where the reference's loop stands -/
def At6 (s : ByteArray) (f k : Nat) (xs : List Int) : Prop :=
  (k ≤ s.size ∧ f ≤ k ∧ scanR [] s.data.toList = match scanR (s.extract f k).data.toList (s.data.toList.drop k) with | none => none | some l => some (xs ++ l)) ∨ (k = s.size + 1 ∧ scanR [] s.data.toList = some xs)

theorem at6_start (s : ByteArray) : At6 s 0 0 [] := by
  refine .inl ⟨Nat.zero_le _, Nat.le_refl _, ?_⟩
  have : (s.extract 0 0).data.toList = [] := by rw [Lib.extract_data]; simp
  rw [this, List.drop_zero]
  cases scanR [] s.data.toList <;> rfl

theorem extract_snoc (s : ByteArray) (f k : Nat) (hf : f ≤ k) (hk : k < s.size) : (s.extract f (k + 1)).data.toList = (s.extract f k).data.toList ++ [s[k]] := by
  rw [Lib.extract_data, Lib.extract_data]
  have e : k + 1 - f = (k - f) + 1 := by omega
  have hl : s.data.toList.length = s.size := Array.length_toList
  rw [e, List.take_succ_eq_append_getElem (by rw [List.length_drop, hl]; omega)]
  congr 2
  rw [List.getElem_drop]
  have e2 : f + (k - f) = k := by omega
  show s.data.toList[f + (k - f)] = s.data.toList[k]'(by rw [hl]; exact hk)
  congr 1

theorem drop_cons (s : ByteArray) (k : Nat) (hk : k < s.size) : s.data.toList.drop k = s[k] :: s.data.toList.drop (k + 1) := by
  rw [List.drop_eq_getElem_cons (by simpa using hk)]; rfl

theorem at6_go {s : ByteArray} {f k : Nat} {xs : List Int} (h : At6 s f k xs) (hk : k < s.size) (hc : s[k] ≠ 32) : At6 s f (k + 1) xs := by
  rcases h with ⟨_, h2, h3⟩ | ⟨h1, _⟩
  · refine .inl ⟨hk, by omega, ?_⟩
    rw [h3, drop_cons s k hk, extract_snoc s f k h2 hk, scanR, if_neg hc]
  · omega
theorem at6_word {s : ByteArray} {f k : Nat} {xs : List Int} {v : Int} (h : At6 s f k xs) (hk : k < s.size) (hc : s[k] = 32) (hw : wordO (s.extract f k) = some v) : At6 s (k + 1) (k + 1) (xs ++ [v]) := by
  rcases h with ⟨_, h2, h3⟩ | ⟨h1, _⟩
  · refine .inl ⟨hk, Nat.le_refl _, ?_⟩
    rw [h3, drop_cons s k hk, scanR, if_pos hc, wordL_data, hw]
    have : (s.extract (k + 1) (k + 1)).data.toList = [] := by rw [Lib.extract_data]; simp
    rw [this]
    cases scanR [] (s.data.toList.drop (k + 1)) with
    | none => rfl
    | some l => simp
  · omega
theorem at6_bad {s : ByteArray} {f k : Nat} {xs : List Int} (h : At6 s f k xs) (hk : k < s.size) (hc : s[k] = 32) (hw : wordO (s.extract f k) = none) : scanR [] s.data.toList = none := by
  rcases h with ⟨_, h2, h3⟩ | ⟨h1, _⟩
  · rw [h3, drop_cons s k hk, scanR, if_pos hc, wordL_data, hw]
  · omega
theorem at6_last {s : ByteArray} {f : Nat} {xs : List Int} {v : Int} (h : At6 s f s.size xs) (hw : wordO (s.extract f s.size) = some v) : At6 s (s.size + 1) (s.size + 1) (xs ++ [v]) := by
  rcases h with ⟨_, h2, h3⟩ | ⟨h1, _⟩
  · refine .inr ⟨rfl, ?_⟩
    have hl : s.data.toList.length = s.size := Array.length_toList
    rw [h3, List.drop_of_length_le (by omega), scanR, wordL_data, hw]
  · omega
theorem at6_badlast {s : ByteArray} {f : Nat} {xs : List Int} (h : At6 s f s.size xs) (hw : wordO (s.extract f s.size) = none) : scanR [] s.data.toList = none := by
  rcases h with ⟨_, h2, h3⟩ | ⟨h1, _⟩
  · have hl : s.data.toList.length = s.size := Array.length_toList
    rw [h3, List.drop_of_length_le (by omega), scanR, wordL_data, hw]
  · omega
theorem at6_end {s : ByteArray} {f k : Nat} {xs : List Int} (h : At6 s f k xs) (hk : s.size < k) : scanR [] s.data.toList = some xs := by
  rcases h with ⟨h1, _⟩ | ⟨_, h2⟩
  · omega
  · exact h2

theorem script_ne {s : ByteArray} (h : 0 < s.size) : script s.data.toList = scanR [] s.data.toList := by
  unfold script
  rw [if_neg]
  intro e
  have hl : s.data.toList.length = s.size := Array.length_toList
  rw [e] at hl; simp at hl; omega
theorem script_nil {s : ByteArray} (h : s.size = 0) : script s.data.toList = some [] := by
  unfold script
  rw [if_pos]
  apply List.eq_nil_of_length_eq_zero
  rw [Array.length_toList]; exact h

theorem post6 {s : ByteArray} {w w' : World} {v : Value} {o : Option (List Int)} {er : Int} {xs : List Int} (ho : script s.data.toList = o) (he : er = errOf o) (hx : xs = outOf o) (hown : w'.ownsRow w.heap.size 3 1 v xs.length (xs.map (Value.int .i64))) (hb : Below w.heap.size w w') :
    ScriptPost s w (.returned (.tuple #[v, .int .i64 er])) w' := ⟨v, by rw [ho, he], by rw [ho, ← hx]; exact hown, hb⟩

set_option maxHeartbeats 2000000 in
set_option maxRecDepth 100000 in
theorem walk_refscript (s : ByteArray) (w : World) (hs : s.size ≤ 300) : Calls Tryz.prog 6 #[.string s] w (ScriptPost s w) := by
  by_cases h0 : s.size = 0
  · have H : Hid (ScriptPost s w (.returned (.tuple #[.slice none 0 0, .int .i64 0])) w) := Lib.hid (post6 (script_nil h0) rfl rfl (World.ownsRow_nil _ _ _ _) (Below.refl _ _))
    go_enter Tryz.func6, Tryz.ntmps6
    go_wp2
    refine bodyPost_ret (v := .tuple #[.slice none 0 0, .int .i64 0]) (by simp [results, Tryz.results6, go_sem]) rfl H.out
  · have hsc : Hid (script s.data.toList = scanR [] s.data.toList) := Lib.hid (script_ne (by omega))
    have hz : ((s.size : Int) == 0) = false := by simp; intro e; exact h0 (by rw [e]; rfl)
    obtain ⟨i0, hi, hz0, hz1, hz2⟩ := info_parts Tryz_info3
    go_enter Tryz.func6, Tryz.ntmps6
    go_wp2
    go_loopw [4, 5, 6] (fun v fr i wr => ∃ (k f : Nat) (xs : List Int), k ≤ s.size + 1 ∧ f ≤ k ∧ xs.length ≤ k ∧ i = .int .i64 k ∧ fr = .int .i64 f ∧ Hid (At6 s f k xs) ∧ wr.ownsRow w.heap.size 3 1 v xs.length (xs.map (Value.int .i64)) ∧ Below w.heap.size w wr) (fun _ _ i _ => s.size + 1 - (intOf i).toNat)
    case atStart => exact ⟨0, 0, [], by omega, by omega, by simp, rfl, rfl, Lib.hid (at6_start s), World.ownsRow_nil _ _ _ _, Below.refl _ _⟩
    case round =>
      obtain ⟨k, f, xs, hk, hf, hxl, rfl, rfl, HA, hown, hb⟩ := hrel
      by_cases hlt : k < s.size
      · by_cases hc : s[k] = 32
        · have hc' : (((s[k].toNat : Int)) == 32) = true := by rw [u8_eq s[k] 32 32 (by decide)]; simpa using hc
          cases hw : wordO (s.extract f k) with
          | some v =>
            have hbd := word_bd hw
            obtain ⟨hv1, hv2⟩ := hbd
            have HA' : Hid (At6 s (k + 1) (k + 1) (xs ++ [v])) := Lib.hid (at6_word HA.out hlt hc hw)
            have c := refread_some (s.extract f k) v wr (extract_small s f k hs) hw
            clear HA hw
            go_wp2_with (first | (go_at_call 14; refine c.mono ?_; rintro e w' ⟨rfl, rfl⟩) | (at_builtin; refine wpList_append_own _ rfl _ _ 22 rfl w.heap.size 3 i0 (.int .i64 0) 1 8 Tryz.underlying22 hi hz0 hz1 hz2 rfl (by decide) _ _ _ rfl (hown.alloc _) ⟨wr.heap.size, 0, none⟩ 1 1 [.int .i64 v] rfl rfl ?c1 ?c2 ?c3 ?c4 ?c5 ?_))
            case c1 =>
              intro j u hj
              match j, hj with
              | 0, hj => simp at hj; subst hj; simp [Addr.add]
            case c2 => intro u hu; simp at hu; subst hu; rfl
            case c3 => unfold maxLen; omega
            case c4 => omega
            case c5 => have hq := hb.size; simp; omega
            intro v' w1 hown' hgrow _
            have hb' : Below w.heap.size w w1 := (hb.alloc hb.size _).grown hgrow (by have := hb.size; simp; omega) (fun k hk => (hown.lt k hk).1)
            clear hown hgrow hb
            go_wp2
            go_roundw
            case rel => exact ⟨k + 1, k + 1, xs ++ [v], by omega, by omega, by have hq : (xs ++ [v]).length = xs.length + 1 := List.length_append; omega, by go_num, by go_num, HA', by simpa using hown', hb'⟩
            case measure => simp [intOf]; omega
          | none =>
            have H : Hid (ScriptPost s w (.returned (.tuple #[.slice none 0 0, .int .i64 40])) wr) := Lib.hid (post6 (hsc.out.trans (at6_bad HA.out hlt hc hw)) rfl rfl (World.ownsRow_nil _ _ _ _) hb)
            have c := refread_none (s.extract f k) wr (extract_small s f k hs) hw
            clear HA hw
            go_wp2_with (first | (go_at_call 14; refine c.mono ?_; rintro e w' ⟨n, er, rfl, hne, rfl⟩) | (at_builtin; exact absurd hne.out (by omega)))
            all_goals (refine bodyPost_ret (v := .tuple #[.slice none 0 0, .int .i64 40]) ?_ rfl H.out; simp [results, Tryz.results6, go_sem]; done)
        · have hc' : (((s[k].toNat : Int)) == 32) = false := by rw [u8_eq s[k] 32 32 (by decide)]; simpa using hc
          have HA' : Hid (At6 s f (k + 1) xs) := Lib.hid (at6_go HA.out hlt hc)
          clear HA hc
          go_wp2
          go_roundw
          case rel => exact ⟨k + 1, f, xs, by omega, by omega, by omega, by go_num, rfl, HA', hown, hb⟩
          case measure => simp [intOf]; omega
      · by_cases hke : k = s.size
        · subst hke
          cases hw : wordO (s.extract f s.size) with
          | some v =>
            have hbd := word_bd hw
            obtain ⟨hv1, hv2⟩ := hbd
            have HA' : Hid (At6 s (s.size + 1) (s.size + 1) (xs ++ [v])) := Lib.hid (at6_last HA.out hw)
            have c := refread_some (s.extract f s.size) v wr (extract_small s f s.size hs) hw
            clear HA hw
            go_wp2_with (first | (go_at_call 14; refine c.mono ?_; rintro e w' ⟨rfl, rfl⟩) | (at_builtin; refine wpList_append_own _ rfl _ _ 22 rfl w.heap.size 3 i0 (.int .i64 0) 1 8 Tryz.underlying22 hi hz0 hz1 hz2 rfl (by decide) _ _ _ rfl (hown.alloc _) ⟨wr.heap.size, 0, none⟩ 1 1 [.int .i64 v] rfl rfl ?c1 ?c2 ?c3 ?c4 ?c5 ?_))
            case c1 =>
              intro j u hj
              match j, hj with
              | 0, hj => simp at hj; subst hj; simp [Addr.add]
            case c2 => intro u hu; simp at hu; subst hu; rfl
            case c3 => unfold maxLen; omega
            case c4 => omega
            case c5 => have hq := hb.size; simp; omega
            intro v' w1 hown' hgrow _
            have hb' : Below w.heap.size w w1 := (hb.alloc hb.size _).grown hgrow (by have := hb.size; simp; omega) (fun k hk => (hown.lt k hk).1)
            clear hown hgrow hb
            go_wp2
            go_roundw
            case rel => exact ⟨s.size + 1, s.size + 1, xs ++ [v], by omega, by omega, by have hq : (xs ++ [v]).length = xs.length + 1 := List.length_append; omega, by go_num, by go_num, HA', by simpa using hown', hb'⟩
            case measure => first | (simp [intOf]; done) | (simp [intOf]; omega)
          | none =>
            have H : Hid (ScriptPost s w (.returned (.tuple #[.slice none 0 0, .int .i64 40])) wr) := Lib.hid (post6 (hsc.out.trans (at6_badlast HA.out hw)) rfl rfl (World.ownsRow_nil _ _ _ _) hb)
            have c := refread_none (s.extract f s.size) wr (extract_small s f s.size hs) hw
            clear HA hw
            go_wp2_with (first | (go_at_call 14; refine c.mono ?_; rintro e w' ⟨n, er, rfl, hne, rfl⟩) | (at_builtin; exact absurd hne.out (by omega)))
            all_goals (refine bodyPost_ret (v := .tuple #[.slice none 0 0, .int .i64 40]) ?_ rfl H.out; simp [results, Tryz.results6, go_sem]; done)
        · have hk2 : k = s.size + 1 := by omega
          have H : Hid (ScriptPost s w (.returned (.tuple #[u4, .int .i64 0])) wr) := Lib.hid (post6 (hsc.out.trans (at6_end HA.out (by omega))) rfl rfl hown hb)
          clear HA hown
          go_wp2
          refine bodyPost_ret (v := .tuple #[_, .int .i64 0]) (by simp [results, Tryz.results6, go_sem]) rfl H.out
end Go.Proofs

namespace Go.Proofs
set_option linter.unusedVariables false
set_option linter.unusedSimpArgs false
open Go.RowKit Go.Lns

theorem same_ne (a1 a2 : Option Addr) (n1 n2 c1 c2 : Nat) (w : World) (h : ((n1 : Int) == (n2 : Int)) = false) :
    Calls Tryz.prog 7 #[.slice a1 n1 c1, .slice a2 n2 c2] w fun e w' => e = .returned (.bool false) ∧ w = w' := by
  have h' : ((n1 : Int) != (n2 : Int)) = true := by simp only [bne, h]; rfl
  go_enter Tryz.func7, Tryz.ntmps7
  go_wp2
  go_ret
  exact ⟨rfl, rfl⟩

theorem same_nil (a1 a2 : Option Addr) (c1 c2 : Nat) (w : World) :
    Calls Tryz.prog 7 #[.slice a1 0 c1, .slice a2 0 c2] w fun e w' => e = .returned (.bool true) ∧ w = w' := by
  go_enter Tryz.func7, Tryz.ntmps7
  go_wp2
  refine wp_loop_rounds 1 ?_
  rw [rounds_succ]
  go_wp2
  go_ret
  exact ⟨rfl, rfl⟩

def SamePost (xs ys : List Int) (w : World) (e : Ending) (w' : World) : Prop := e = .returned (.bool (decide (xs = ys))) ∧ ∃ n, w' = w.drewN n

theorem getD_ext {xs ys : List Int} (n : Nat) (hx : xs.length = n) (hy : ys.length = n) (h : xs.take n = ys.take n) : xs = ys := by
  rw [List.take_of_length_le (by omega), List.take_of_length_le (by omega)] at h; exact h
theorem take_step {xs ys : List Int} (n k : Nat) (hx : xs.length = n) (hy : ys.length = n) (hk : k < n) (h : xs.take k = ys.take k) (he : xs.getD k 0 = ys.getD k 0) : xs.take (k + 1) = ys.take (k + 1) := by
  rw [List.take_succ_eq_append_getElem (by omega), List.take_succ_eq_append_getElem (by omega), h]
  simp only [List.getD, List.getElem?_eq_getElem (show k < xs.length by omega), List.getElem?_eq_getElem (show k < ys.length by omega), Option.getD_some] at he
  rw [he]

set_option maxHeartbeats 1000000 in
set_option maxRecDepth 100000 in
theorem same_pos (g1 g2 o1 o2 n c1 c2 : Nat) (xs ys : List Int) (w : World) (hn : n ≤ 1000) (hx : xs.length = n) (hy : ys.length = n)
    (h1 : ∀ j, j < n → w.cell? ⟨g1, o1 + j, none⟩ = some (.int .i64 (xs.getD j 0))) (h2 : ∀ j, j < n → w.cell? ⟨g2, o2 + j, none⟩ = some (.int .i64 (ys.getD j 0))) :
    Calls Tryz.prog 7 #[.slice (some ⟨g1, o1, none⟩) n c1, .slice (some ⟨g2, o2, none⟩) n c2] w (SamePost xs ys w) := by
  have HX := Lib.hid hx
  have HY := Lib.hid hy
  clear hx hy
  have hb : ((n : Int) != (n : Int)) = false := by simp
  go_enter Tryz.func7, Tryz.ntmps7
  go_wp2
  go_loopw [5] (fun i wr => ∃ k m : Nat, k ≤ n ∧ i = .int .i64 k ∧ Hid (xs.take k = ys.take k) ∧ wr = w.drewN m) (fun i _ => n - (intOf i).toNat)
  case atStart => exact ⟨0, 0, Nat.zero_le _, rfl, Lib.hid (by simp), rfl⟩
  case round =>
    obtain ⟨k, m, hk, rfl, HT, rfl⟩ := hrel
    by_cases hlt : k < n
    · have e1 := h1 k hlt
      have e2 := h2 k hlt
      clear h1 h2
      obtain ⟨a, ha⟩ : ∃ a, a = xs.getD k 0 := ⟨_, rfl⟩
      obtain ⟨b, hb2⟩ : ∃ b, b = ys.getD k 0 := ⟨_, rfl⟩
      rw [← ha] at e1
      rw [← hb2] at e2
      have HA := Lib.hid ha
      have HB := Lib.hid hb2
      clear ha hb2
      by_cases hab : a = b
      · have hc : ((a : Int) != b) = false := by simp [hab]
        have HT' : Hid (xs.take (k + 1) = ys.take (k + 1)) := Lib.hid (take_step n k HX.out HY.out hlt HT.out (by rw [← HA.out, ← HB.out]; exact hab))
        clear hab
        go_wp2
        go_region
        all_goals
          go_wp2
          go_roundw
          case rel => exact ⟨k + 1, m + 1, by omega, by go_num, HT', rfl⟩
          case measure => simp [intOf]; omega
      · have hc : ((a : Int) != b) = true := by simp [hab]
        have HD : Hid (decide (xs = ys) = false) := Lib.hid (decide_eq_false (by intro e; exact hab (by rw [HA.out, HB.out, e])))
        clear hab
        go_wp2
        go_region
        all_goals
          go_wp2
          go_ret
          exact ⟨by rw [HD.out]; rfl, m + 1, rfl⟩
    · have hkn : k = n := by omega
      subst hkn
      have HD : Hid (decide (xs = ys) = true) := Lib.hid (decide_eq_true (getD_ext k HX.out HY.out HT.out))
      clear h1 h2 hlt
      go_wp2
      go_ret
      exact ⟨by rw [HD.out]; rfl, m, rfl⟩
end Go.Proofs

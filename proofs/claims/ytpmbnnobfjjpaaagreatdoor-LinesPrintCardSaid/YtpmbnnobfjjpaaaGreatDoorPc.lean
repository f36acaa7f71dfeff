/- lines.Print, selvageref22.Print, and LinesPrint's own body. -/
import Derived.Test.YtpmbnnobfjjpaaaGreatDoorPa
import Derived.Test.YtpmbnnobfjjpaaaGreatDoorWe
import Derived.Laws.Concat
import Derived.Test.YtpmbnnobfjjpaaaGreatDoorWb
import Derived.Test.YtpmbnnobfjjpaaaGreatDoorShelf
import Derived.Test.YtpmbnnobfjjpaaaGreatDoorLaw
namespace Go.Proofs
set_option linter.unusedVariables false
set_option linter.unusedSimpArgs false
open Go.RowKit Go.Lns

def prS (xs : List Int) : ByteArray := if (∀ y ∈ xs, okI y) then bs (txt xs) else ⟨#[]⟩
def prE (xs : List Int) : Int := if (∀ y ∈ xs, okI y) then 0 else 1
def PrintPost (xs : List Int) (w : World) (e : Ending) (w' : World) : Prop := e = .returned (.tuple #[.string (prS xs), .int .i64 (prE xs)]) ∧ Below w.heap.size w w'
theorem print_good {xs : List Int} {w w' : World} {s : ByteArray} (h : ∀ y ∈ xs, okI y) (hs : s = bs (txt xs)) (hb : Below w.heap.size w w') : PrintPost xs w (.returned (.tuple #[.string s, .int .i64 0])) w' :=
  ⟨by unfold prS prE; rw [if_pos h, if_pos h, hs], hb⟩
theorem print_bad {xs : List Int} {w w' : World} {y : Int} (h : y ∈ xs) (hy : ¬ okI y) (hb : Below w.heap.size w w') : PrintPost xs w (.returned (.tuple #[.string ⟨#[]⟩, .int .i64 1])) w' := by
  have hn : ¬ (∀ y ∈ xs, okI y) := fun e => hy (e y h)
  exact ⟨by unfold prS prE; rw [if_neg hn, if_neg hn], hb⟩

theorem bs_app (a b : List UInt8) : bs a ++ bs b = bs (a ++ b) := Go.Proofs.app_mk a b
theorem take_snoc {xs : List Int} {k : Nat} (h : k < xs.length) : xs.take (k + 1) = xs.take k ++ [xs.getD k 0] := by
  rw [List.take_succ_eq_append_getElem h]; simp [List.getD, List.getElem?_eq_getElem h]
theorem all_snoc {xs : List Int} {k : Nat} (h : k < xs.length) (ha : ∀ y ∈ xs.take k, okI y) (hk : okI (xs.getD k 0)) : ∀ y ∈ xs.take (k + 1), okI y := by
  rw [take_snoc h]
  intro y hy
  rcases List.mem_append.1 hy with h1 | h1
  · exact ha y h1
  · rw [List.mem_singleton.1 h1]; exact hk
theorem getD_mem {xs : List Int} {k : Nat} (h : k < xs.length) : xs.getD k 0 ∈ xs := by
  simp only [List.getD, List.getElem?_eq_getElem h, Option.getD_some]; exact List.getElem_mem h
theorem txt0 {xs : List Int} {k : Nat} (h : k < xs.length) (h0 : k = 0) (x : Int) (hx : x = xs.getD k 0) : bs (txt (xs.take (k + 1))) = bs (showL x) := by
  subst h0
  rw [take_snoc h, txt_snoc, if_pos (by simp), hx]
theorem txt1 {xs : List Int} {k : Nat} (h : k < xs.length) (h0 : 0 < k) (x : Int) (hx : x = xs.getD k 0) : bs (txt (xs.take (k + 1))) = (bs (txt (xs.take k)) ++ ⟨#[32]⟩) ++ bs (showL x) := by
  have e : (⟨#[32]⟩ : ByteArray) = bs [32] := rfl
  rw [take_snoc h, txt_snoc, if_neg, e, bs_app, bs_app, hx]
  · simp
  · intro e
    have := congrArg List.length e
    rw [List.length_take, List.length_nil] at this
    omega
theorem takelen {xs : List Int} {k : Nat} (ha : ∀ y ∈ xs.take k, okI y) (h : k ≤ 30) : (bs (txt (xs.take k))).size ≤ 400 := by
  rw [bs_size]
  have := txt_len _ ha
  have h2 : (xs.take k).length ≤ k := by rw [List.length_take]; omega
  omega

set_option maxHeartbeats 1000000 in
set_option maxRecDepth 100000 in
theorem refprint_pos (g o n c : Nat) (xs : List Int) (w : World) (hn : n ≤ 30) (hx : xs.length = n) (hg : g < w.heap.size)
    (hi : ∀ j, j < n → -9223372036854775808 ≤ xs.getD j 0 ∧ xs.getD j 0 ≤ 9223372036854775807)
    (h1 : ∀ j, j < n → w.cell? ⟨g, o + j, none⟩ = some (.int .i64 (xs.getD j 0))) :
    Calls Tryz.prog 10 #[.slice (some ⟨g, o, none⟩) n c] w (PrintPost xs w) := by
  have HX := Lib.hid hx
  clear hx
  go_enter Tryz.func10, Tryz.ntmps10
  go_wp2
  go_loopw [4, 5] (fun s i wr => ∃ (k : Nat) (acc : ByteArray), k ≤ n ∧ i = .int .i64 k ∧ s = .string acc ∧ acc.size ≤ 400 ∧ Hid (acc = bs (txt (xs.take k))) ∧ Hid (∀ y ∈ xs.take k, okI y) ∧ Hid (Below w.heap.size w wr)) (fun _ i _ => n - (intOf i).toNat)
  case atStart => exact ⟨0, ⟨#[]⟩, Nat.zero_le _, rfl, rfl, by decide, Lib.hid rfl, Lib.hid (by simp), Lib.hid (Below.refl _ _)⟩
  case round =>
    obtain ⟨k, acc, hk, rfl, rfl, hsz, HA, HK, HB⟩ := hrel
    by_cases hlt : k < n
    · have e1 : wr.cell? ⟨g, o + k, none⟩ = some (.int .i64 (xs.getD k 0)) := (HB.out.cell (p := ⟨g, o + k, none⟩) hg).trans (h1 k hlt)
      have hik := hi k hlt
      clear h1 hi
      obtain ⟨a, ha⟩ : ∃ a, a = xs.getD k 0 := ⟨_, rfl⟩
      rw [← ha] at e1 hik
      obtain ⟨hi1, hi2⟩ := hik
      have HV := Lib.hid ha
      clear ha
      have hlx : k < xs.length := by rw [HX.out]; exact hlt
      by_cases hok : okI a
      · obtain ⟨S, hS⟩ : ∃ S, S = bs (showL a) := ⟨_, rfl⟩
        have hSz : S.size ≤ 10 := by rw [hS, bs_size]; exact show_len a hok
        have hw : wrap63 a = a := (asks_good a hok).2.2
        have c : ∀ w, Calls Tryz.prog 18 #[.int .i64 a] w fun e w' => e = .returned (.string S) ∧ Hid (Below w.heap.size w w') := fun w =>
          (walk_refshow a w hi1 hi2).mono fun e w' ⟨h2, h3⟩ => ⟨by rw [h2, hw, hS]; rfl, Lib.hid h3⟩
        have HS := Lib.hid hS
        clear hS hw
        have HK' : Hid (∀ y ∈ xs.take (k + 1), okI y) := Lib.hid (all_snoc hlx HK.out (by rw [← HV.out]; exact hok))
        have hlo : decide (a < -999999999) = false := decide_eq_false (by unfold okI at hok; omega)
        have hhi : decide (a > 999999999) = false := decide_eq_false (by unfold okI at hok; omega)
        have hlo2 : ¬ (a < -999999999) := by unfold okI at hok; omega
        have hhi2 : ¬ (999999999 < a) := by unfold okI at hok; omega
        clear hok
        by_cases h0 : k = 0
        · have hA2 : Hid (S = bs (txt (xs.take (k + 1)))) := Lib.hid (by rw [HS.out]; exact (txt0 hlx h0 a HV.out).symm)
          have hacc : acc = ⟨#[]⟩ := by rw [HA.out, h0]; rfl
          have hadd : ∀ w, (Op.stringOp .add acc S).run Tryz.prog w = .ok (.string S) w := fun w => by
            rw [run_string_add_sum w _ _ (by omega), hacc]; congr 2
          subst h0
          rw [Nat.add_zero] at e1
          have HL := Lib.hid hlx
          clear hacc hk hlx
          go_wp2_with (first | (go_at_call 18; refine (c _).mono ?_; rintro e w' ⟨rfl, hb'⟩))
          go_roundw
          case rel => exact ⟨1, S, by omega, by go_num, rfl, by omega, hA2, HK', Lib.hid (HB.out.trans (hb'.out.mono HB.out.size))⟩
          case measure => simp [intOf]; omega
        · obtain ⟨A1, hA1⟩ : ∃ A, A = acc ++ ⟨#[32]⟩ := ⟨_, rfl⟩
          obtain ⟨A2, hA2e⟩ : ∃ A, A = A1 ++ S := ⟨_, rfl⟩
          have hz1 : A1.size ≤ 401 := by rw [hA1, ByteArray.size_append]; show acc.size + 1 ≤ 401; omega
          have hA2 : A2 = bs (txt (xs.take (k + 1))) := by rw [hA2e, hA1, HA.out, HS.out]; exact (txt1 hlx (by omega) a HV.out).symm
          have hz2 : A2.size ≤ 400 := by rw [hA2]; exact takelen HK'.out (by omega)
          have hadd1 : ∀ w, (Op.stringOp .add acc ⟨#[32]⟩).run Tryz.prog w = .ok (.string A1) w := fun w => by
            rw [run_string_add_sum w _ _ (by show acc.size + 1 ≤ _; omega), hA1]
          have hadd2 : ∀ w, (Op.stringOp .add A1 S).run Tryz.prog w = .ok (.string A2) w := fun w => by
            rw [run_string_add_sum w _ _ (by omega), hA2e]
          have HA2 := Lib.hid hA2
          have hk0 : decide ((k : Int) > 0) = true := decide_eq_true (by omega)
          have hk1 : (0 : Int) < (k : Int) := by omega
          clear hA1 hA2e hA2 hz1
          go_wp2_with (first | (go_at_call 18; refine (c _).mono ?_; rintro e w' ⟨rfl, hb'⟩))
          go_roundw
          case rel => exact ⟨k + 1, A2, by omega, by go_num, rfl, hz2, HA2, HK', Lib.hid (HB.out.trans (hb'.out.mono HB.out.size))⟩
          case measure => simp [intOf]; omega
      · have H : Hid (PrintPost xs w (.returned (.tuple #[.string ⟨#[]⟩, .int .i64 1])) wr) := Lib.hid (print_bad (by rw [HV.out]; exact getD_mem hlx) hok HB.out)
        by_cases hlo : a < -999999999
        · have hd : decide (a < -999999999) = true := decide_eq_true hlo
          clear hok
          go_wp2
          refine bodyPost_ret (v := .tuple #[.string ⟨#[]⟩, .int .i64 1]) (by simp [results, Tryz.results10, go_sem]) rfl H.out
        · have hhi : 999999999 < a := by unfold okI at hok; omega
          clear hok
          go_wp2
          refine bodyPost_ret (v := .tuple #[.string ⟨#[]⟩, .int .i64 1]) (by simp [results, Tryz.results10, go_sem]) rfl H.out
    · have hkn : k = n := by omega
      subst hkn
      have H : Hid (PrintPost xs w (.returned (.tuple #[.string acc, .int .i64 0])) wr) := Lib.hid (by
        have e : xs.take k = xs := List.take_of_length_le (by rw [HX.out]; exact Nat.le_refl _)
        have h1 := HK.out
        have h2 := HA.out
        rw [e] at h1 h2
        exact print_good h1 h2 HB.out)
      clear h1 hi hlt
      go_wp2
      refine bodyPost_ret (v := .tuple #[.string acc, .int .i64 0]) (by simp [results, Tryz.results10, go_sem]) rfl H.out
end Go.Proofs

namespace Go.Proofs
set_option linter.unusedVariables false
set_option linter.unusedSimpArgs false
open Go.RowKit Go.Lns

theorem owns_later {w w' : World} {base : Nat} {e : TypeId} {size : Nat} {v : Value} {n : Nat} {xs : List Value} (h : w.ownsRow base e size v n xs) (hb : Below w.heap.size w w') : w'.ownsRow base e size v n xs := by
  obtain ⟨h0, h | ⟨g, cap, cur, rfl, h1, h2, h3, h4, h5, h6⟩⟩ := h
  · exact ⟨h0, .inl h⟩
  · exact ⟨h0, .inr ⟨g, cap, cur, rfl, h1, (hb.block g (Array.getElem?_eq_some_iff.1 h2).1).trans h2, h3, h4, h5, h6⟩⟩
theorem Tryz_info9 : (Tryz.prog.info? 9).map (fun i => (i.zero, i.size, i.bytes)) = some (some (.string ⟨#[]⟩), 1, 16) := by kernel_rfl
def shV (x : Int) : Value := .string (bs (showL x))

theorem print_join {xs : List Int} (h : ∀ y ∈ xs, okI y) : (⟨(Lib.join ((xs.map fun x => bs (showL x)).map (·.data.toList)) [32]).toArray⟩ : ByteArray) = bs (txt xs) := by
  have : (xs.map fun x => bs (showL x)).map (·.data.toList) = xs.map showL := by
    rw [List.map_map]; apply List.map_congr_left; intro x _; exact bs_data _
  rw [this]; rfl

/-- what is read of a number's text -/
theorem reads_show (a : Int) (w : World) (S : ByteArray) (hS : S = bs (showL (wrap63 a))) (hz : S.size ≤ 400) : Calls Tryz.prog 12 #[.string S] w fun e w' => ∃ m er : Int, e = .returned (.tuple #[.int .i64 m, .int .i64 er]) ∧ m = (readL (showL (wrap63 a))).1 ∧ w = w' :=
  (walk_read S w hz).mono fun e w' ⟨h1, h2⟩ => ⟨_, _, h1, by rw [hS, bs_data], h2⟩

theorem showw_len (a : Int) (h1 : -9223372036854775808 ≤ a) (h2 : a ≤ 9223372036854775807) : (bs (showL (wrap63 a))).size ≤ 20 := by
  obtain ⟨b1, b2⟩ := wrap63_bd a h1 h2
  have := numL_len 18 (wrap63 a).natAbs (by omega)
  rw [bs_size]
  unfold showL; split <;> simp <;> omega

theorem join_any {w : World} {base n : Nat} {v : Value} {xs : List Int} (h : w.ownsRow base 9 1 v n (xs.map shV)) (hl : n = xs.length) (hn : n ≤ 30) (hok : ∀ y ∈ xs, okI y) :
    Calls Tryz.prog 17 #[v, .string ⟨#[32]⟩] w fun e w' => e = .returned (.string (bs (txt xs))) ∧ Hid (Below w.heap.size w w') := by
  subst hl
  have hj := print_join hok
  obtain ⟨h0, ⟨rfl, hz⟩ | ⟨g, cap, cur, rfl, h1, h2, h3, h4, h5, h6⟩⟩ := h
  · have : xs = [] := List.eq_nil_of_length_eq_zero (by omega)
    subst this
    refine (Tryz.strings_Join_none none 0 ⟨#[32]⟩ w).mono fun e w' he => ?_
    obtain ⟨e1, rfl⟩ := he
    exact ⟨e1, Lib.hid (Below.refl _ _)⟩
  · have hlen := txt_len xs hok
    have hc : ∀ (j : Nat) x, (xs.map fun x => bs (showL x))[j]? = some x → w.cell? ⟨g, 0 + j, none⟩ = some (.string x) := by
      intro j x hj
      rw [Go.AM.cell_of_block h2, Nat.zero_add]
      have e1 : (cur.toList.take (xs.length * 1))[j]? = some (.string x) := by
        rw [h6, List.getElem?_map]
        rw [List.getElem?_map] at hj
        cases hq : xs[j]? with
        | none => rw [hq] at hj; cases hj
        | some y => rw [hq] at hj; cases hj; rfl
      rw [Nat.mul_one, List.getElem?_take] at e1
      split at e1
      · rw [← Array.getElem?_toList]; exact e1
      · cases e1
    have hml : (xs.map fun x => bs (showL x)).length = xs.length := List.length_map _
    have hcap : xs.length ≤ cap := h3
    have c := Tryz.strings_Join g 0 cap (xs.map fun x => bs (showL x)) ⟨#[32]⟩ w hc (Array.getElem?_eq_some_iff.1 h2).1 (by rw [hml]; omega) (by rw [hml]; exact hcap) (by
      have e := congrArg ByteArray.size hj
      rw [size_mk, bs_size] at e
      show (Lib.join _ [32]).length ≤ _
      omega)
    rw [hml] at c
    refine c.mono fun e w' he => ?_
    exact ⟨by rw [he.1]; congr 2, Lib.hid he.2⟩

set_option maxHeartbeats 2000000 in
set_option maxRecDepth 100000 in
theorem print_pos (g o n c : Nat) (xs : List Int) (w : World) (hn : n ≤ 30) (hx : xs.length = n) (hg : g < w.heap.size)
    (hi : ∀ j, j < n → -9223372036854775808 ≤ xs.getD j 0 ∧ xs.getD j 0 ≤ 9223372036854775807)
    (h1 : ∀ j, j < n → w.cell? ⟨g, o + j, none⟩ = some (.int .i64 (xs.getD j 0))) :
    Calls Tryz.prog 9 #[.slice (some ⟨g, o, none⟩) n c] w (PrintPost xs w) := by
  have HX := Lib.hid hx
  clear hx
  obtain ⟨i0, hi0, hz0, hz1, hz2⟩ := info_parts Tryz_info9
  go_enter Tryz.func9, Tryz.ntmps9
  go_wp2
  go_loopw [4, 12] (fun v i wr => ∃ (k : Nat) (vs : List Value), k ≤ n ∧ i = .int .i64 k ∧ Hid (vs = (xs.take k).map shV) ∧ Hid (∀ y ∈ xs.take k, okI y) ∧ wr.ownsRow w.heap.size 9 1 v k vs ∧ Hid (Below w.heap.size w wr)) (fun _ i _ => n - (intOf i).toNat)
  case atStart => exact ⟨0, [], Nat.zero_le _, rfl, Lib.hid rfl, Lib.hid (by simp), World.ownsRow_nil _ _ _ _, Lib.hid (Below.refl _ _)⟩
  case round =>
    obtain ⟨k, vs, hk, rfl, HV, HK, hown, HB⟩ := hrel
    by_cases hlt : k < n
    · have e1 : wr.cell? ⟨g, o + k, none⟩ = some (.int .i64 (xs.getD k 0)) := (HB.out.cell (p := ⟨g, o + k, none⟩) hg).trans (h1 k hlt)
      have hik := hi k hlt
      clear h1 hi
      obtain ⟨a, ha⟩ : ∃ a, a = xs.getD k 0 := ⟨_, rfl⟩
      rw [← ha] at e1 hik
      obtain ⟨hi1, hi2⟩ := hik
      have HA := Lib.hid ha
      clear ha
      have hlx : k < xs.length := by rw [HX.out]; exact hlt
      obtain ⟨S, hS⟩ : ∃ S, S = bs (showL (wrap63 a)) := ⟨_, rfl⟩
      have hSz : S.size ≤ 20 := by rw [hS]; exact showw_len a hi1 hi2
      obtain ⟨T, hT⟩ : ∃ T, T = (⟨(Lib.trimPrefix S.data.toList [45]).toArray⟩ : ByteArray) := ⟨_, rfl⟩
      have hTl : T.size = (Lib.trimPrefix (showL (wrap63 a)) [45]).length := by rw [hT, hS, bs_data]; exact size_mk _
      obtain ⟨m, hm⟩ : ∃ m, m = (readL (showL (wrap63 a))).1 := ⟨_, rfl⟩
      have c16 : ∀ w, Calls Tryz.prog 16 #[.int .i64 a] w fun e w' => e = .returned (.string S) ∧ Hid (Below w.heap.size w w') := fun w =>
        (walk_show a w hi1 hi2).mono fun e w' ⟨h2, h3⟩ => ⟨by rw [h2, hS]; rfl, Lib.hid h3⟩
      have c12 : ∀ w, Calls Tryz.prog 12 #[.string S] w fun e w' => ∃ er : Int, e = .returned (.tuple #[.int .i64 m, .int .i64 er]) ∧ w = w' := fun w =>
        (reads_show a w S hS (by omega)).mono fun e w' ⟨m', er, h2, h3, h4⟩ => ⟨er, by rw [h2, h3, ← hm], h4⟩
      have c13 : ∀ w, Calls Tryz.prog 13 #[.string S, .string ⟨#[45]⟩] w fun e w' => e = .returned (.string T) ∧ w = w' := fun w =>
        (Tryz.strings_TrimPrefix S ⟨#[45]⟩ w).mono fun e w' he => by
          obtain ⟨h2, h3⟩ := he
          exact ⟨by rw [h2, hT], h3.symm⟩
      by_cases hok : okI a
      · have hgood := asks_good a hok
        have hma : m = a := hm.trans hgood.1
        have hT9 : T.size ≤ 9 := by rw [hTl]; exact hgood.2.1
        have HS : Hid (shV a = .string S) := Lib.hid (by rw [hS, hgood.2.2]; rfl)
        have HK' : Hid (∀ y ∈ xs.take (k + 1), okI y) := Lib.hid (all_snoc hlx HK.out (by rw [← HA.out]; exact hok))
        have HV' : Hid (vs ++ [.string S] = (xs.take (k + 1)).map shV) := Lib.hid (by rw [take_snoc hlx, List.map_append, ← HV.out, ← HA.out]; show _ = vs ++ [shV a]; rw [HS.out])
        clear hok hgood hm hS hT hTl hlx
        subst hma
        have hne : ((m : Int) != m) = false := by simp
        go_wp2_with (first | (go_at_call 16; refine (c16 _).mono ?_; rintro e w1 ⟨rfl, hb1⟩) | (go_at_call 12; refine (c12 _).mono ?_; rintro e w2 ⟨er, rfl, rfl⟩) | (go_at_call 13; refine (c13 _).mono ?_; rintro e w3 ⟨rfl, rfl⟩) | (at_builtin; refine wpList_append_own _ rfl _ _ 38 rfl w.heap.size 9 i0 (.string ⟨#[]⟩) 1 16 Tryz.underlying38 hi0 hz0 hz1 hz2 rfl (by decide) _ _ _ rfl ((owns_later hown hb1.out).alloc _) ⟨w1.heap.size, 0, none⟩ 1 1 [.string S] rfl rfl ?c1 ?c2 ?c3 ?c4 ?c5 ?_))
        case c1 =>
          intro j u hj
          match j, hj with
          | 0, hj => simp at hj; subst hj; simp [Addr.add]
        case c2 => intro u hu; simp at hu; subst hu; rfl
        case c3 => unfold maxLen; omega
        case c4 => omega
        case c5 => have hq := HB.out.size; have hq2 := hb1.out.size; simp; omega
        intro v' w4 hown' hgrow _
        have hB1 := HB.out.trans (hb1.out.mono HB.out.size)
        have hb' : Below w.heap.size w w4 := (hB1.alloc hB1.size _).grown hgrow (by have := hB1.size; simp; omega) (fun k hk => (hown.lt k hk).1)
        have HB' := Lib.hid hb'
        clear hown hgrow hB1 hb'
        go_wp2
        go_roundw
        case rel => exact ⟨k + 1, vs ++ [.string S], by omega, by go_num, HV', HK', hown', HB'⟩
        case measure => simp [intOf]; omega
      · have hbad := asks_bad a hok
        have HP : ∀ w1, Below wr.heap.size wr w1 → Hid (PrintPost xs w (.returned (.tuple #[.string ⟨#[]⟩, .int .i64 1])) w1) := fun w1 hb1 =>
          Lib.hid (print_bad (by rw [HA.out]; exact getD_mem hlx) hok (HB.out.trans (hb1.mono HB.out.size)))
        rw [← hm, ← hTl] at hbad
        clear hok hm hS hT hTl hlx
        by_cases hma : m = a
        · have hT9 : (9 : Int) < (T.size : Int) := by
            rcases hbad with h | h
            · exact absurd hma h
            · omega
          clear hbad
          subst hma
          have hne : ((m : Int) != m) = false := by simp
          go_wp2_with (first | (go_at_call 16; refine (c16 _).mono ?_; rintro e w1 ⟨rfl, hb1⟩) | (go_at_call 12; refine (c12 _).mono ?_; rintro e w2 ⟨er, rfl, rfl⟩) | (go_at_call 13; refine (c13 _).mono ?_; rintro e w3 ⟨rfl, rfl⟩))
          refine bodyPost_ret (v := .tuple #[.string ⟨#[]⟩, .int .i64 1]) (by simp [results, Tryz.results9, go_sem]) rfl (HP _ hb1.out).out
        · have hne : ((m : Int) != a) = true := by simp [hma]
          clear hbad hma
          go_wp2_with (first | (go_at_call 16; refine (c16 _).mono ?_; rintro e w1 ⟨rfl, hb1⟩) | (go_at_call 12; refine (c12 _).mono ?_; rintro e w2 ⟨er, rfl, rfl⟩) | (go_at_call 13; refine (c13 _).mono ?_; rintro e w3 ⟨rfl, rfl⟩))
          refine bodyPost_ret (v := .tuple #[.string ⟨#[]⟩, .int .i64 1]) (by simp [results, Tryz.results9, go_sem]) rfl (HP _ hb1.out).out
    · have hkn : k = n := by omega
      subst hkn
      have e : xs.take k = xs := List.take_of_length_le (by rw [HX.out]; exact Nat.le_refl _)
      have hK := HK.out
      have hV := HV.out
      rw [e] at hK hV
      rw [hV] at hown
      have c17 := join_any hown HX.out.symm hn hK
      have H : ∀ w1, Below wr.heap.size wr w1 → Hid (PrintPost xs w (.returned (.tuple #[.string (bs (txt xs)), .int .i64 0])) w1) := fun w1 hb1 =>
        Lib.hid (print_good hK rfl (HB.out.trans (hb1.mono HB.out.size)))
      clear h1 hi hlt hK hV e HK HV hown
      go_wp2_with (first | (go_at_call 17; refine c17.mono ?_; rintro e w1 ⟨rfl, hb1⟩))
      refine bodyPost_ret (v := .tuple #[.string (bs (txt xs)), .int .i64 0]) (by simp [results, Tryz.results9, go_sem]) rfl (H _ hb1.out).out
end Go.Proofs

namespace Go.Proofs
set_option linter.unusedVariables false
set_option linter.unusedSimpArgs false
open Go.RowKit Go.Lns

theorem refprint_nil (p : Option Addr) (c : Nat) (w : World) : Calls Tryz.prog 10 #[.slice p 0 c] w (PrintPost [] w) := by
  have H : Hid (PrintPost [] w (.returned (.tuple #[.string ⟨#[]⟩, .int .i64 0])) w) := Lib.hid (print_good (by simp) rfl (Below.refl _ _))
  go_enter Tryz.func10, Tryz.ntmps10
  go_wp2
  refine wp_loop_rounds 1 ?_
  rw [rounds_succ]
  go_wp2
  refine bodyPost_ret (v := .tuple #[.string ⟨#[]⟩, .int .i64 0]) (by simp [results, Tryz.results10, go_sem]) rfl H.out
theorem print_nil (p : Option Addr) (c : Nat) (w : World) : Calls Tryz.prog 9 #[.slice p 0 c] w (PrintPost [] w) := by
  have H : Hid (PrintPost [] w (.returned (.tuple #[.string ⟨#[]⟩, .int .i64 0])) w) := Lib.hid (print_good (by simp) rfl (Below.refl _ _))
  go_enter Tryz.func9, Tryz.ntmps9
  go_wp2
  refine wp_loop_rounds 1 ?_
  rw [rounds_succ]
  go_wp2_with (first | (go_at_call 17; refine (Tryz.strings_Join_none none 0 ⟨#[32]⟩ _).mono ?_; rintro e w1 ⟨rfl, rfl⟩))
  refine bodyPost_ret (v := .tuple #[.string ⟨#[]⟩, .int .i64 0]) (by simp [results, Tryz.results9, go_sem]) rfl H.out

/-- a list that is handed in -/
def HandedI (w : World) (v : Value) (xs : List Int) : Prop :=
  (xs = [] ∧ ∃ p c, v = .slice p 0 c) ∨ ∃ g o c, v = .slice (some ⟨g, o, none⟩) xs.length c ∧ 0 < xs.length ∧ xs.length ≤ c ∧ g < w.heap.size ∧ (∀ j, j < xs.length → -9223372036854775808 ≤ xs.getD j 0 ∧ xs.getD j 0 ≤ 9223372036854775807) ∧ ∀ j, j < xs.length → w.cell? ⟨g, o + j, none⟩ = some (.int .i64 (xs.getD j 0))
theorem HandedI.later {w w' : World} {v : Value} {xs : List Int} (h : HandedI w v xs) (hb : Below w.heap.size w w') : HandedI w' v xs := by
  rcases h with h | ⟨g, o, c, h1, h2, h3, h4, h5, h6⟩
  · exact .inl h
  · exact .inr ⟨g, o, c, h1, h2, h3, by have := hb.size; omega, h5, fun j hj => (hb.cell (p := ⟨g, o + j, none⟩) h4).trans (h6 j hj)⟩
theorem print_any {w : World} {v : Value} {xs : List Int} (h : HandedI w v xs) (hn : xs.length ≤ 30) : Calls Tryz.prog 9 #[v] w (PrintPost xs w) := by
  rcases h with ⟨rfl, p, c, rfl⟩ | ⟨g, o, c, rfl, h2, h3, h4, h5, h6⟩
  · exact print_nil p c w
  · exact print_pos g o xs.length c xs w hn rfl h4 h5 h6
theorem refprint_any {w : World} {v : Value} {xs : List Int} (h : HandedI w v xs) (hn : xs.length ≤ 30) : Calls Tryz.prog 10 #[v] w (PrintPost xs w) := by
  rcases h with ⟨rfl, p, c, rfl⟩ | ⟨g, o, c, rfl, h2, h3, h4, h5, h6⟩
  · exact refprint_nil p c w
  · exact refprint_pos g o xs.length c xs w hn rfl h4 h5 h6
/-- a list that was handed in, and one that was read: they are the same -/
theorem same_two {w : World} {v1 v2 : Value} {xs : List Int} (hn : xs.length ≤ 1000) (h1 : HandedI w v1 xs) (h2 : HoldsI w v2 xs) : Calls Tryz.prog 7 #[v1, v2] w (TrueDrew w) := by
  rcases h1 with ⟨rfl, p, c, rfl⟩ | ⟨g1, o1, c1, rfl, h0, _, _, _, hc1⟩
  · rcases h2 with ⟨rfl, _⟩ | ⟨g, o, c2, rfl, _, hz, _⟩
    · exact (same_nil p none c 0 w).mono fun e w' he => ⟨he.1, 0, he.2.symm⟩
    · simp at hz
  · rcases h2 with ⟨rfl, hz⟩ | ⟨g, o, c2, rfl, _, hz, hc2⟩
    · subst hz; simp at h0
    · exact (same_pos g1 g o1 o xs.length c1 c2 xs xs w hn rfl rfl hc1 hc2).mono fun e w' he => ⟨by rw [he.1, decide_eq_true rfl], he.2⟩
end Go.Proofs

namespace Go.Proofs
set_option linter.unusedVariables false
set_option linter.unusedSimpArgs false
open Go.RowKit Go.Lns

def PrOk (S : ByteArray) (E : Int) (w : World) (e : Ending) (w' : World) : Prop := e = .returned (.tuple #[.string S, .int .i64 E]) ∧ Hid (Below w.heap.size w w')

set_option maxHeartbeats 2000000 in
theorem law4_body (lv : LivesOk) (p : Option Addr) (n c m : Nat) (xs : List Int) (W : World) (hm : Hid (MaxIs W)) (hml : xs.length = m) (hm30 : m ≤ 30) (hc : n ≤ 30 ∧ m = n ∨ 30 < n ∧ m = 30 ∧ n ≤ c) (hv : Hid (HandedI W (.slice p m c) xs)) :
    Calls Tryz.prog 4 #[.slice p n c] W (TrueBelow W) := by
  obtain ⟨E, hE⟩ : ∃ E, E = prE xs := ⟨_, rfl⟩
  obtain ⟨S, hS⟩ : ∃ S, S = prS xs := ⟨_, rfl⟩
  have hself : (S.toList == S.toList) = true := by simp
  have c9 : ∀ w, Hid (Below W.heap.size W w) → Calls Tryz.prog 9 #[.slice p m c] w (PrOk S E w) := fun w hb =>
    (print_any (hv.out.later hb.out) (by omega)).mono fun e w' ⟨h1, h2⟩ => ⟨by rw [h1, hS, hE], Lib.hid h2⟩
  have c10 : ∀ w, Hid (Below W.heap.size W w) → Calls Tryz.prog 10 #[.slice p m c] w (PrOk S E w) := fun w hb =>
    (refprint_any (hv.out.later hb.out) (by omega)).mono fun e w' ⟨h1, h2⟩ => ⟨by rw [h1, hS, hE], Lib.hid h2⟩
  have c8 : ∀ w, Hid (Below W.heap.size W w) → Calls Tryz.prog 8 #[] w fun e w' => e = .returned (.bool true) ∧ Hid (Below W.heap.size W w') := fun w hb =>
    (lv w (hm.out.later hb.out)).mono fun e w' ⟨h1, h2⟩ => ⟨h1, Lib.hid (hb.out.trans (h2.mono hb.out.size))⟩
  have B0 : Hid (Below W.heap.size W W) := Lib.hid (Below.refl _ _)
  by_cases hok : ∀ y ∈ xs, okI y
  · have hE0 : E = 0 := by rw [hE]; unfold prE; rw [if_pos hok]
    have hSt : S = bs (txt xs) := by rw [hS]; unfold prS; rw [if_pos hok]
    have hSz : S.size ≤ 400 := by rw [hSt, bs_size]; have := txt_len xs hok; omega
    have hsc : script S.data.toList = some xs := by rw [hSt, bs_data]; exact script_txt xs hok
    have c5 : ∀ w, Hid (Below W.heap.size W w) → Calls Tryz.prog 5 #[.string S] w fun e w' => ∃ v5, e = .returned (.tuple #[v5, .int .i64 0]) ∧ Hid (HoldsI w' v5 xs) ∧ Hid (Below W.heap.size W w') := fun w hb => by
      obtain ⟨C, ty, fz, k, h1, h2⟩ := hm.out.later hb.out
      exact (walk_script S w hSz h1 h2).mono fun e w' ⟨v, h3, h4, h5⟩ => ⟨v, by rw [h3, hsc]; rfl, Lib.hid (by rw [hsc] at h4; exact h4), Lib.hid (hb.out.trans (h5.mono hb.out.size))⟩
    have c7 : ∀ w v5, Hid (Below W.heap.size W w) → Hid (HoldsI w v5 xs) → Calls Tryz.prog 7 #[.slice p m c, v5] w fun e w' => e = .returned (.bool true) ∧ Hid (Below W.heap.size W w') := fun w v5 hb h5 =>
      (same_two (by omega) (hv.out.later hb.out) h5.out).mono fun e w' ⟨h1, k, h2⟩ => ⟨h1, Lib.hid (by rw [h2]; exact hb.out.trans ((below_drewN w k).mono hb.out.size))⟩
    clear hsc hSt hS hE hok
    subst hE0
    rcases hc with ⟨h1, rfl⟩ | ⟨h1, h2, h3⟩
    · have hcond : ((m : Int) > 30) ↔ False := iff_false_intro (by omega)
      go_enter Tryz.func4, Tryz.ntmps4
      go_wp2_with (first | (go_at_call 9; refine (c9 _ B0).mono ?_; rintro e w1 ⟨rfl, hb1⟩; have B1 := hb1) | (go_at_call 10; refine (c10 _ hb1).mono ?_; rintro e w2 ⟨rfl, hb2⟩) | (go_at_call 5; refine (c5 _ (Lib.hid (hb1.out.trans (hb2.out.mono hb1.out.size)))).mono ?_; rintro e w3 ⟨v5, rfl, hh5, hb3⟩) | (go_at_call 7; refine (c7 _ _ hb3 hh5).mono ?_; rintro e w4 ⟨rfl, hb4⟩) | (go_at_call 8; refine (c8 _ hb4).mono ?_; rintro e w5 ⟨rfl, hb5⟩))
      go_ret
      exact ⟨rfl, hb5.out⟩
    · subst h2
      have hcond : ((n : Int) > 30) := by omega
      go_enter Tryz.func4, Tryz.ntmps4
      go_wp2_with (first | (go_at_call 9; refine (c9 _ B0).mono ?_; rintro e w1 ⟨rfl, hb1⟩; have B1 := hb1) | (go_at_call 10; refine (c10 _ hb1).mono ?_; rintro e w2 ⟨rfl, hb2⟩) | (go_at_call 5; refine (c5 _ (Lib.hid (hb1.out.trans (hb2.out.mono hb1.out.size)))).mono ?_; rintro e w3 ⟨v5, rfl, hh5, hb3⟩) | (go_at_call 7; refine (c7 _ _ hb3 hh5).mono ?_; rintro e w4 ⟨rfl, hb4⟩) | (go_at_call 8; refine (c8 _ hb4).mono ?_; rintro e w5 ⟨rfl, hb5⟩))
      trace_state
      go_ret
      exact ⟨rfl, hb5.out⟩
  · have hE0 : E = 1 := by rw [hE]; unfold prE; rw [if_neg hok]
    clear hS hE hok
    subst hE0
    rcases hc with ⟨h1, rfl⟩ | ⟨h1, h2, h3⟩
    · have hcond : ((m : Int) > 30) ↔ False := iff_false_intro (by omega)
      go_enter Tryz.func4, Tryz.ntmps4
      go_wp2_with (first | (go_at_call 9; refine (c9 _ B0).mono ?_; rintro e w1 ⟨rfl, hb1⟩; have B1 := hb1) | (go_at_call 10; refine (c10 _ hb1).mono ?_; rintro e w2 ⟨rfl, hb2⟩) | (go_at_call 8; refine (c8 _ (Lib.hid (hb1.out.trans (hb2.out.mono hb1.out.size)))).mono ?_; rintro e w5 ⟨rfl, hb5⟩))
      go_ret
      exact ⟨rfl, hb5.out⟩
    · subst h2
      have hcond : ((n : Int) > 30) := by omega
      go_enter Tryz.func4, Tryz.ntmps4
      go_wp2_with (first | (go_at_call 9; refine (c9 _ B0).mono ?_; rintro e w1 ⟨rfl, hb1⟩; have B1 := hb1) | (go_at_call 10; refine (c10 _ hb1).mono ?_; rintro e w2 ⟨rfl, hb2⟩) | (go_at_call 8; refine (c8 _ (Lib.hid (hb1.out.trans (hb2.out.mono hb1.out.size)))).mono ?_; rintro e w5 ⟨rfl, hb5⟩))
      go_ret
      exact ⟨rfl, hb5.out⟩
end Go.Proofs

/- A part of the proof that selvagelaw22.LinesScript answers true at every text. -/
import Derived.Test.YtpmbnnobfjjpaaaGreatDoorWa
namespace Go.Proofs
set_option linter.unusedVariables false
set_option linter.unusedSimpArgs false
open Go.RowKit Go.Lns

theorem walk_plain_no (s : ByteArray) (w : World) (hs : s.size ≤ 400) (h : fmtB s = false) : Calls Tryz.prog 21 #[.string s] w fun e w' => e = .returned (.tuple #[.string ⟨#[]⟩, .bool false, .bool false]) ∧ w = w' :=
  (walk_plain s w hs).mono fun e w' he => ⟨by rw [he.1, plain_no h], he.2⟩
theorem walk_plain_yes (s d : ByteArray) (b : Bool) (w : World) (hs : s.size ≤ 400) (h : fmtB s = true) (hd : digB s = d) (hb : negB s = b) : Calls Tryz.prog 21 #[.string s] w fun e w' => e = .returned (.tuple #[.string d, .bool b, .bool true]) ∧ w = w' :=
  (walk_plain s w hs).mono fun e w' he => ⟨by rw [he.1, plain_yes hd h, hb], he.2⟩

def stepA (c : UInt8) (n : Int) : Option Int := if n < (-4611686018427387904 + ((c.toNat : Int) - 48)).tdiv 10 then none else some (10 * n - ((c.toNat : Int) - 48))
def accL : List UInt8 → Int → Option Int
  | [], n => some n
  | c :: r, n => match stepA c n with | none => none | some m => accL r m
def inI (n : Int) : Bool := decide (-4611686018427387904 ≤ n ∧ n ≤ 4611686018427387903)
def readL (l : List UInt8) : Int × Int :=
  if fmtL l then match accL (digL l) 0 with
    | none => (0, 13)
    | some n => if inI (if negL l then n else -n) then ((if negL l then n else -n), 0) else (0, 13)
  else (0, 1)

theorem walk_is (n : Int) (w : World) : Calls Tryz.prog 22 #[.int .i64 n] w fun e w' => e = .returned (.bool (inI n)) ∧ w = w' := by
  unfold inI
  go_enter Tryz.func22, Tryz.ntmps22
  go_wp2
  all_goals go_ret
  all_goals refine ⟨?_, rfl⟩
  all_goals simp_all
  all_goals omega
theorem walk_is_yes (n : Int) (w : World) (h : inI n = true) : Calls Tryz.prog 22 #[.int .i64 n] w fun e w' => e = .returned (.bool true) ∧ w = w' := (walk_is n w).mono fun e w' he => ⟨by rw [he.1, h], he.2⟩
theorem walk_is_no (n : Int) (w : World) (h : inI n = false) : Calls Tryz.prog 22 #[.int .i64 n] w fun e w' => e = .returned (.bool false) ∧ w = w' := (walk_is n w).mono fun e w' he => ⟨by rw [he.1, h], he.2⟩

def ReadPost (s : ByteArray) (w : World) (e : Ending) (w' : World) : Prop := e = .returned (.tuple #[.int .i64 (readL s.data.toList).1, .int .i64 (readL s.data.toList).2]) ∧ w = w'

theorem read_bad (s : ByteArray) (w : World) (hs : s.size ≤ 400) (h : fmtB s = false) : Calls Tryz.prog 12 #[.string s] w (ReadPost s w) := by
  have hv : readL s.data.toList = (0, 1) := by unfold readL; rw [if_neg (by unfold fmtB at h; rw [h]; decide)]
  have H := Lib.hid hv; clear hv
  have c := walk_plain_no s w hs h
  clear h
  go_enter Tryz.func12, Tryz.ntmps12
  go_wp2_with (refine c.mono ?_; rintro e w' ⟨rfl, rfl⟩)
  refine bodyPost_ret (v := .tuple #[.int .i64 0, .int .i64 1]) (by simp [results, Tryz.results12, go_sem]) rfl ⟨by rw [H.out], rfl⟩

theorem stepA_some {c : UInt8} {n : Int} (h : ¬ n < (-4611686018427387904 + ((c.toNat : Int) - 48)).tdiv 10) : stepA c n = some (10 * n - ((c.toNat : Int) - 48)) := if_neg h
theorem stepA_none {c : UInt8} {n : Int} (h : n < (-4611686018427387904 + ((c.toNat : Int) - 48)).tdiv 10) : stepA c n = none := if_pos h
theorem accL_drop (d : ByteArray) (k : Nat) (hk : k < d.size) (n : Int) : accL (d.data.toList.drop k) n = match stepA d[k] n with | none => none | some m => accL (d.data.toList.drop (k + 1)) m := by
  rw [List.drop_eq_getElem_cons (by simpa using hk)]
  rfl
theorem accL_end (d : ByteArray) (n : Int) : accL (d.data.toList.drop d.size) n = some n := by
  rw [List.drop_of_length_le (by have : d.data.toList.length = d.size := Array.length_toList; omega)]; rfl

set_option maxHeartbeats 1000000 in
theorem read_good (s d : ByteArray) (b : Bool) (w : World) (hs : s.size ≤ 400) (h : fmtB s = true) (hd : digB s = d) (hb : negB s = b) : Calls Tryz.prog 12 #[.string s] w (ReadPost s w) := by
  have hds : d.size ≤ 400 := by rw [← hd]; unfold digB; split; (rw [ByteArray.size_extract]; omega); exact hs
  have hdl : digL s.data.toList = d.data.toList := by rw [← hd, digB_data]
  have hdg : digs d d.size := by
    have : fmtL s.data.toList = true := h
    unfold fmtL at this
    rw [hdl] at this
    simp only [Bool.and_eq_true] at this
    exact (all_digs d).1 this.2.2
  have hv1 : ∀ n, accL d.data.toList 0 = some n → inI (if b then n else -n) = true → readL s.data.toList = ((if b then n else -n), 0) := by
    intro n e e2
    unfold readL
    rw [if_pos (show fmtL s.data.toList = true from h), hdl, e]
    show (if inI (if negL s.data.toList = true then n else -n) = true then _ else _) = _
    rw [show negL s.data.toList = b from hb, if_pos e2]
  have hv2 : ∀ n, accL d.data.toList 0 = some n → inI (if b then n else -n) = false → readL s.data.toList = (0, 13) := by
    intro n e e2
    unfold readL
    rw [if_pos (show fmtL s.data.toList = true from h), hdl, e]
    show (if inI (if negL s.data.toList = true then n else -n) = true then _ else _) = _
    rw [show negL s.data.toList = b from hb, if_neg (by rw [e2]; decide)]
  have hv3 : accL d.data.toList 0 = none → readL s.data.toList = (0, 13) := by
    intro e
    unfold readL
    rw [if_pos (show fmtL s.data.toList = true from h), hdl, e]
  have H1 := Lib.hid hv1; have H2 := Lib.hid hv2; have H3 := Lib.hid hv3
  clear hv1 hv2 hv3 hdl
  have c := walk_plain_yes s d b w hs h hd hb
  clear h hd hb
  go_enter Tryz.func12, Tryz.ntmps12
  go_wp2_with (refine c.mono ?_; rintro e w' ⟨rfl, rfl⟩)
  go_loop [7, 20] (fun t i => ∃ (k : Nat) (n : Int), k ≤ d.size ∧ -4611686018427387904 ≤ n ∧ n ≤ 0 ∧ i = .int .i64 k ∧ t = .int .i64 n ∧ Hid (accL d.data.toList 0 = accL (d.data.toList.drop k) n)) (fun _ i => d.size - (intOf i).toNat)
  case atStart => exact ⟨0, 0, Nat.zero_le _, by omega, by omega, rfl, rfl, Lib.hid rfl⟩
  case round =>
    obtain ⟨k, n, hk, hn1, hn2, rfl, rfl, HA⟩ := hrel
    by_cases hlt : k < d.size
    · have hd1 := (hdg k hlt hlt).1
      have hd2 := (hdg k hlt hlt).2
      have hd1' : 48 ≤ (d[k].toNat : Int) := by omega
      have hd2' : (d[k].toNat : Int) ≤ 57 := by omega
      clear hd1 hd2 c hdg
      by_cases ht : n < (-4611686018427387904 + ((d[k].toNat : Int) - 48)).tdiv 10
      · have e3 : readL s.data.toList = (0, 13) := H3.out (by rw [HA.out, accL_drop d k hlt, stepA_none ht])
        have H4 := Lib.hid e3; clear e3
        go_wp2
        refine bodyPost_ret (v := .tuple #[.int .i64 0, .int .i64 13]) (by simp [results, Tryz.results12, go_sem]) rfl ⟨by rw [H4.out], rfl⟩
      · have e3 : accL d.data.toList 0 = accL (d.data.toList.drop (k + 1)) (10 * n - ((d[k].toNat : Int) - 48)) := by rw [HA.out, accL_drop d k hlt, stepA_some ht]
        have H4 := Lib.hid e3; clear e3 HA
        have b1 : -4611686018427387904 ≤ 10 * n - ((d[k].toNat : Int) - 48) := by
          have := Int.mul_tdiv_add_tmod (-4611686018427387904 + ((d[k].toNat : Int) - 48)) 10
          have e1 : (-4611686018427387904 + ((d[k].toNat : Int) - 48)) = -(4611686018427387904 - ((d[k].toNat : Int) - 48)) := by omega
          have e2 : (-4611686018427387904 + ((d[k].toNat : Int) - 48)).tmod 10 = -((4611686018427387904 - ((d[k].toNat : Int) - 48)).tmod 10) := by rw [e1, Int.neg_tmod]
          have := Int.tmod_nonneg 10 (show 0 ≤ 4611686018427387904 - ((d[k].toNat : Int) - 48) by omega)
          omega
        have b2 : 10 * n - ((d[k].toNat : Int) - 48) ≤ 0 := by omega
        have hlow : ¬ n < (-4611686018427387904 + ((d[k].toNat : Int) - 48)).tdiv 10 := ht
        go_wp2
        all_goals
          go_round
          case rel => exact ⟨k + 1, 10 * n - ((d[k].toNat : Int) - 48), by omega, b1, b2, by go_num, rfl, H4⟩
          case measure => simp [intOf]; omega
    · have hk' : k = d.size := by omega
      subst hk'
      have e3 : accL d.data.toList 0 = some n := by rw [HA.out, accL_end]
      have HN1 := H1.out n e3
      have HN2 := H2.out n e3
      clear HA hdg c hlt e3
      cases b
      · by_cases hi : inI (-n) = true
        · have H4 := Lib.hid (HN1 hi)
          have c := walk_is_yes (-n) w hi
          clear HN1 HN2 hi
          go_wp2_with (refine c.mono ?_; rintro e w' ⟨rfl, rfl⟩)
          refine bodyPost_ret (v := .tuple #[.int .i64 (-n), .int .i64 0]) (by simp [results, Tryz.results12, go_sem]) rfl ⟨by rw [H4.out]; rfl, rfl⟩
        · have hi' : inI (-n) = false := by simpa using hi
          have H4 := Lib.hid (HN2 hi')
          have c := walk_is_no (-n) w hi'
          clear HN1 HN2 hi hi'
          go_wp2_with (refine c.mono ?_; rintro e w' ⟨rfl, rfl⟩)
          refine bodyPost_ret (v := .tuple #[.int .i64 0, .int .i64 13]) (by simp [results, Tryz.results12, go_sem]) rfl ⟨by rw [H4.out], rfl⟩
      · by_cases hi : inI n = true
        · have H4 := Lib.hid (HN1 hi)
          have c := walk_is_yes n w hi
          clear HN1 HN2 hi
          go_wp2_with (refine c.mono ?_; rintro e w' ⟨rfl, rfl⟩)
          refine bodyPost_ret (v := .tuple #[.int .i64 n, .int .i64 0]) (by simp [results, Tryz.results12, go_sem]) rfl ⟨by rw [H4.out]; rfl, rfl⟩
        · have hi' : inI n = false := by simpa using hi
          have H4 := Lib.hid (HN2 hi')
          have c := walk_is_no n w hi'
          clear HN1 HN2 hi hi'
          go_wp2_with (refine c.mono ?_; rintro e w' ⟨rfl, rfl⟩)
          refine bodyPost_ret (v := .tuple #[.int .i64 0, .int .i64 13]) (by simp [results, Tryz.results12, go_sem]) rfl ⟨by rw [H4.out], rfl⟩

theorem walk_read (s : ByteArray) (w : World) (hs : s.size ≤ 400) : Calls Tryz.prog 12 #[.string s] w (ReadPost s w) := by
  cases h : fmtB s
  · exact read_bad s w hs h
  · exact read_good s _ _ w hs h rfl rfl
end Go.Proofs

/- A part of the proof that selvagelaw22.LinesScript answers true at every text. -/
import Derived.Test.YtpmbnnobfjjpaaaGreatDoorProg
import Derived.WalkKit
import Derived.WalkSpells
import Derived.Test.YtpmbnnobfjjpaaaGreatDoorLnsM
namespace Go.Proofs
set_option linter.unusedVariables false
set_option linter.unusedSimpArgs false
open Go.RowKit Go.Lns

def plainV (s : ByteArray) : Value := if fmtB s then .tuple #[.string (digB s), .bool (negB s), .bool true] else .tuple #[.string ⟨#[]⟩, .bool false, .bool false]
def PlainPost (s : ByteArray) (w : World) (e : Ending) (w' : World) : Prop := e = .returned (plainV s) ∧ w = w'

theorem plain_empty (s : ByteArray) (w : World) (h0 : s.size = 0) : Calls Tryz.prog 21 #[.string s] w (PlainPost s w) := by
  have hv : plainV s = .tuple #[.string ⟨#[]⟩, .bool false, .bool false] := by
    have : s.data.toList = [] := by apply List.eq_nil_of_length_eq_zero; simpa using h0
    unfold plainV fmtB; rw [this]; rfl
  have he : s.toList.isEmpty = true := by rw [isEmpty_toList]; simpa using h0
  have he2 : s.toList = [] := by simpa using he
  have hz : (0 : Nat) < s.size ↔ False := by simp [h0]
  have H := Lib.hid hv; clear hv
  go_enter Tryz.func21, Tryz.ntmps21
  go_wp2
  refine bodyPost_ret (v := .tuple #[.string ⟨#[]⟩, .bool false, .bool false]) (by simp [results, Tryz.results21, go_sem]) rfl ⟨by rw [H.out], rfl⟩

theorem fmtB_head (s d : ByteArray) (hd : digB s = d) (h : 0 < d.size) (h48 : (d[0] == 48) = true) (h1 : 1 < d.size ∨ negB s = true) : fmtB s = false := by
  have e : digL s.data.toList = d.data.toList := by rw [← hd, digB_data]
  have hh : d.data.toList.head? = some 48 := by
    rw [List.head?_eq_getElem?, List.getElem?_eq_getElem (by simpa using h)]
    simp only [beq_iff_eq] at h48
    exact congrArg some h48
  unfold fmtB fmtL
  rw [e, hh]
  have : (decide (1 < d.data.toList.length) || negL s.data.toList) = true := by
    rcases h1 with h1 | h1
    · have : 1 < d.data.toList.length := by simpa using h1
      rw [decide_eq_true this]; rfl
    · have : negL s.data.toList = true := h1
      rw [this, Bool.or_true]
  rw [this]; simp only [beq_self_eq_true, Bool.and_self, Bool.not_true, Bool.false_and, Bool.and_false]

theorem fmtB_all (s d : ByteArray) (hd : digB s = d) (h : d.data.toList.all isDig = false) : fmtB s = false := by
  have e : digL s.data.toList = d.data.toList := by rw [← hd, digB_data]
  unfold fmtB fmtL
  rw [e, h]; simp

theorem fmtB_nil (s d : ByteArray) (hd : digB s = d) (h : d.size = 0) : fmtB s = false := by
  have e : digL s.data.toList = d.data.toList := by rw [← hd, digB_data]
  unfold fmtB fmtL
  have : d.data.toList = [] := by apply List.eq_nil_of_length_eq_zero; simpa using h
  rw [e, this]; simp

theorem fmtB_yes (s d : ByteArray) (hd : digB s = d) (h : 0 < d.size) (h48 : (d[0] == 48) = true → ¬ 1 < d.size ∧ negB s = false) (hall : digs d d.size) : fmtB s = true := by
  have e : digL s.data.toList = d.data.toList := by rw [← hd, digB_data]
  have hh : d.data.toList.head? = some d[0] := by
    rw [List.head?_eq_getElem?, List.getElem?_eq_getElem (by simpa using h)]; rfl
  unfold fmtB fmtL
  rw [e, hh, (all_digs d).2 hall]
  have hne : d.data.toList.isEmpty = false := by
    cases hq : d.data.toList with
    | nil => rw [hq] at hh; cases hh
    | cons _ _ => rfl
  rw [hne]
  by_cases hq : (d[0] == 48) = true
  · obtain ⟨k1, k2⟩ := h48 hq
    have : negL s.data.toList = false := k2
    have k3 : decide (1 < d.data.toList.length) = false := by simpa using k1
    rw [this, k3]; simp only [Bool.or_self, Bool.and_false, Bool.not_false, Bool.and_self]
  · simp only [Bool.not_eq_true] at hq
    simp only [beq_eq_false_iff_ne, ne_eq] at hq
    simp [hq]

theorem plain_no {s : ByteArray} (h : fmtB s = false) : plainV s = .tuple #[.string ⟨#[]⟩, .bool false, .bool false] := by unfold plainV; rw [h]; rfl
theorem plain_yes {s d : ByteArray} (hd : digB s = d) (h : fmtB s = true) : plainV s = .tuple #[.string d, .bool (negB s), .bool true] := by unfold plainV; rw [h, hd]; rfl

theorem u8_eq (a b : UInt8) (n : Int) (hn : (b.toNat : Int) = n) : ((a.toNat : Int) == n) = (a == b) := by
  rw [Bool.eq_iff_iff]
  simp only [beq_iff_eq]
  constructor
  · intro h
    apply UInt8.toNat_inj.1
    omega
  · rintro rfl
    exact hn

set_option maxHeartbeats 1000000 in
/-- no minus ahead -/
theorem plain_pos (s : ByteArray) (w : World) (hs : s.size ≤ 400) (h0 : 0 < s.size) (h1 : ((s[0].toNat : Int) == 45) = false) :
    Calls Tryz.prog 21 #[.string s] w (PlainPost s w) := by
  have hn : negB s = false := by rw [negB_of s h0, ← u8_eq s[0] 45 45 (by decide)]; exact h1
  have hd : digB s = s := by unfold digB; rw [hn]; rfl
  have he : s.toList.isEmpty = false := by rw [isEmpty_toList]; exact decide_eq_false (by omega)
  have hne : ¬ s.toList = [] := by simpa using he
  by_cases h48 : ((s[0].toNat : Int) == 48) = true
  · by_cases hl : 1 < s.size
    · have hv := plain_no (fmtB_head s s hd h0 (by rw [← u8_eq s[0] 48 48 (by decide)]; exact h48) (.inl hl))
      have H := Lib.hid hv; clear hv hd hn
      go_enter Tryz.func21, Tryz.ntmps21
      go_wp2
      refine bodyPost_ret (v := .tuple #[.string ⟨#[]⟩, .bool false, .bool false]) (by simp [results, Tryz.results21, go_sem]) rfl ⟨by rw [H.out], rfl⟩
    · have h1' : s.size = 1 := by omega
      have H : Hid (digs s s.size → plainV s = .tuple #[.string s, .bool false, .bool true]) := Lib.hid (fun h => by
        have := plain_yes hd (fmtB_yes s s hd h0 (fun _ => ⟨hl, hn⟩) h); rw [hn] at this; exact this)
      have hlt : (1 < s.size) ↔ False := by simp [hl]
      have hlt2 : ((1:Int) < (s.size : Int)) ↔ False := by simp; omega
      clear hn h1' hl
      go_enter Tryz.func21, Tryz.ntmps21
      go_wp2
      go_loop [35] (fun i => ∃ k : Nat, k ≤ (s).size ∧ i = .int .i64 k ∧ digs (s) k) (fun i => (s).size - (intOf i).toNat)
      case atStart => exact ⟨0, Nat.zero_le _, rfl, fun j hj => by omega⟩
      case round =>
        obtain ⟨k, hk, rfl, hg⟩ := hrel
        by_cases hlt : k < (s).size
        · by_cases hc : 48 ≤ (s)[k].toNat ∧ (s)[k].toNat ≤ 57
          · obtain ⟨c1, c2⟩ := hc
            have c1' : (((s)[k].toNat : Int) < 48) ↔ False := by simp; omega
            have c2' : (((s)[k].toNat : Int) > 57) ↔ False := by simp; omega
            have hg' : Hid (digs (s) (k + 1)) := Lib.hid (by intro j hj hl; by_cases e : j = k; (subst e; exact ⟨c1, c2⟩); exact hg j (by omega) hl)
            clear hg c1 c2
            go_wp2
            all_goals
              go_round
              case rel => exact ⟨k + 1, by omega, by go_num, hg'.out⟩
              case measure => simp [intOf]; omega
          · have hv := plain_no (fmtB_all s (s) hd (not_digs (s) k hlt hc))
            have H2 := Lib.hid hv; clear hv hd
            clear hg
            by_cases c1 : (s)[k].toNat < 48
            · have c1' : (((s)[k].toNat : Int) < 48) := by omega
              clear hc c1
              go_wp2
              refine bodyPost_ret (v := .tuple #[.string ⟨#[]⟩, .bool false, .bool false]) (by simp [results, Tryz.results21, go_sem]) rfl ⟨by rw [H2.out], rfl⟩
            · have c1' : (((s)[k].toNat : Int) < 48) ↔ False := by simp; omega
              have c2' : (((s)[k].toNat : Int) > 57) := by omega
              clear hc c1
              go_wp2
              refine bodyPost_ret (v := .tuple #[.string ⟨#[]⟩, .bool false, .bool false]) (by simp [results, Tryz.results21, go_sem]) rfl ⟨by rw [H2.out], rfl⟩
        · have hk' : k = (s).size := by omega
          subst hk'
          have H3 := H.out hg
          clear hlt hg
          go_wp2
          refine bodyPost_ret (v := .tuple #[.string (s), .bool false, .bool true]) (by simp [results, Tryz.results21, go_sem]) rfl ⟨by rw [H3], rfl⟩
  · have H : Hid (digs s s.size → plainV s = .tuple #[.string s, .bool false, .bool true]) := Lib.hid (fun h => by
      have := plain_yes hd (fmtB_yes s s hd h0 (fun e => by rw [← u8_eq s[0] 48 48 (by decide)] at e; exact absurd e h48) h); rw [hn] at this; exact this)
    have h48' : ((s[0].toNat : Int) == 48) = false := by simpa using h48
    clear hn h48
    go_enter Tryz.func21, Tryz.ntmps21
    go_wp2
    go_loop [35] (fun i => ∃ k : Nat, k ≤ (s).size ∧ i = .int .i64 k ∧ digs (s) k) (fun i => (s).size - (intOf i).toNat)
    case atStart => exact ⟨0, Nat.zero_le _, rfl, fun j hj => by omega⟩
    case round =>
      obtain ⟨k, hk, rfl, hg⟩ := hrel
      by_cases hlt : k < (s).size
      · by_cases hc : 48 ≤ (s)[k].toNat ∧ (s)[k].toNat ≤ 57
        · obtain ⟨c1, c2⟩ := hc
          have c1' : (((s)[k].toNat : Int) < 48) ↔ False := by simp; omega
          have c2' : (((s)[k].toNat : Int) > 57) ↔ False := by simp; omega
          have hg' : Hid (digs (s) (k + 1)) := Lib.hid (by intro j hj hl; by_cases e : j = k; (subst e; exact ⟨c1, c2⟩); exact hg j (by omega) hl)
          clear hg c1 c2
          go_wp2
          all_goals
            go_round
            case rel => exact ⟨k + 1, by omega, by go_num, hg'.out⟩
            case measure => simp [intOf]; omega
        · have hv := plain_no (fmtB_all s (s) hd (not_digs (s) k hlt hc))
          have H2 := Lib.hid hv; clear hv hd
          clear hg
          by_cases c1 : (s)[k].toNat < 48
          · have c1' : (((s)[k].toNat : Int) < 48) := by omega
            clear hc c1
            go_wp2
            refine bodyPost_ret (v := .tuple #[.string ⟨#[]⟩, .bool false, .bool false]) (by simp [results, Tryz.results21, go_sem]) rfl ⟨by rw [H2.out], rfl⟩
          · have c1' : (((s)[k].toNat : Int) < 48) ↔ False := by simp; omega
            have c2' : (((s)[k].toNat : Int) > 57) := by omega
            clear hc c1
            go_wp2
            refine bodyPost_ret (v := .tuple #[.string ⟨#[]⟩, .bool false, .bool false]) (by simp [results, Tryz.results21, go_sem]) rfl ⟨by rw [H2.out], rfl⟩
      · have hk' : k = (s).size := by omega
        subst hk'
        have H3 := H.out hg
        clear hlt hg
        go_wp2
        refine bodyPost_ret (v := .tuple #[.string (s), .bool false, .bool true]) (by simp [results, Tryz.results21, go_sem]) rfl ⟨by rw [H3], rfl⟩

set_option maxHeartbeats 1000000 in
theorem plain_neg (s : ByteArray) (w : World) (hs : s.size ≤ 400) (h0 : 0 < s.size) (h1 : ((s[0].toNat : Int) == 45) = true) :
    Calls Tryz.prog 21 #[.string s] w (PlainPost s w) := by
  have hn : negB s = true := by rw [negB_of s h0, ← u8_eq s[0] 45 45 (by decide)]; exact h1
  have hd : digB s = s.extract 1 s.size := by unfold digB; rw [hn]; rfl
  have hz : (s.extract 1 s.size).size = s.size - 1 := by simp
  by_cases hs1 : s.size = 1
  · have hv := plain_no (fmtB_nil s _ hd (by omega))
    have H := Lib.hid hv; clear hv hd hn
    have he : (s.extract 1 s.size).toList.isEmpty = true := by rw [isEmpty_toList]; exact decide_eq_true (by omega)
    have he2 : (s.extract 1 s.size).toList = [] := by simpa using he
    clear hz hs1
    go_enter Tryz.func21, Tryz.ntmps21
    go_wp2
    refine bodyPost_ret (v := .tuple #[.string ⟨#[]⟩, .bool false, .bool false]) (by simp [results, Tryz.results21, go_sem]) rfl ⟨by rw [H.out], rfl⟩
  · have he : (s.extract 1 s.size).toList.isEmpty = false := by rw [isEmpty_toList]; exact decide_eq_false (by omega)
    have hne : ¬ (s.extract 1 s.size).toList = [] := by simpa using he
    have hz0 : 0 < (s.extract 1 s.size).size := by omega
    clear hz
    by_cases h48 : (((s.extract 1 s.size)[0].toNat : Int) == 48) = true
    · have hv := plain_no (fmtB_head s _ hd hz0 (by rw [← u8_eq (s.extract 1 s.size)[0] 48 48 (by decide)]; exact h48) (.inr hn))
      have H := Lib.hid hv; clear hv hd hn
      go_enter Tryz.func21, Tryz.ntmps21
      go_wp2
      all_goals refine bodyPost_ret (v := .tuple #[.string ⟨#[]⟩, .bool false, .bool false]) (by simp [results, Tryz.results21, go_sem]) rfl ⟨by rw [H.out], rfl⟩
    · have hz2 : (s.extract 1 s.size).size = s.size - 1 := by simp
      have H : Hid (digs (s.extract 1 s.size) (s.size - 1) → plainV s = .tuple #[.string (s.extract 1 s.size), .bool true, .bool true]) := Lib.hid (fun h => by
        have h' : digs (s.extract 1 s.size) (s.extract 1 s.size).size := by rw [hz2]; exact h
        have := plain_yes hd (fmtB_yes s _ hd hz0 (fun e => by rw [← u8_eq (s.extract 1 s.size)[0] 48 48 (by decide)] at e; exact absurd e h48) h')
        rw [hn] at this; exact this)
      clear hz2
      have h48' : (((s.extract 1 s.size)[0].toNat : Int) == 48) = false := by simpa using h48
      clear hn h48
      go_enter Tryz.func21, Tryz.ntmps21
      go_wp2
      go_loop [35] (fun i => ∃ k : Nat, k ≤ s.size - 1 ∧ i = .int .i64 k ∧ digs (s.extract 1 s.size) k) (fun i => (s.size - 1) - (intOf i).toNat)
      case atStart => exact ⟨0, Nat.zero_le _, rfl, fun j hj => by omega⟩
      case round =>
        obtain ⟨k, hk, rfl, hg⟩ := hrel
        by_cases hlt : k < s.size - 1
        · have hlt' : k < (s.extract 1 s.size).size := by simp; omega
          by_cases hc : 48 ≤ (s.extract 1 s.size)[k].toNat ∧ (s.extract 1 s.size)[k].toNat ≤ 57
          · obtain ⟨c1, c2⟩ := hc
            have c1' : (((s.extract 1 s.size)[k].toNat : Int) < 48) ↔ False := iff_false_intro (by omega)
            have c2' : (((s.extract 1 s.size)[k].toNat : Int) > 57) ↔ False := iff_false_intro (by omega)
            have hg' : Hid (digs (s.extract 1 s.size) (k + 1)) := Lib.hid (by intro j hj hl; by_cases e : j = k; (subst e; exact ⟨c1, c2⟩); exact hg j (by omega) hl)
            clear hg c1 c2
            go_wp2
            all_goals
              go_round
              case rel => exact ⟨k + 1, by omega, by go_num, hg'.out⟩
              case measure => simp [intOf]; omega
          · have hv := plain_no (fmtB_all s _ hd (not_digs (s.extract 1 s.size) k hlt' hc))
            have H2 := Lib.hid hv; clear hv hd
            clear hg
            by_cases c1 : (s.extract 1 s.size)[k].toNat < 48
            · have c1' : (((s.extract 1 s.size)[k].toNat : Int) < 48) := by omega
              clear hc c1
              go_wp2
              all_goals refine bodyPost_ret (v := .tuple #[.string ⟨#[]⟩, .bool false, .bool false]) (by simp [results, Tryz.results21, go_sem]) rfl ⟨by rw [H2.out], rfl⟩
            · have c1' : (((s.extract 1 s.size)[k].toNat : Int) < 48) ↔ False := iff_false_intro (by omega)
              have c2' : (((s.extract 1 s.size)[k].toNat : Int) > 57) := by omega
              clear hc c1
              go_wp2
              all_goals refine bodyPost_ret (v := .tuple #[.string ⟨#[]⟩, .bool false, .bool false]) (by simp [results, Tryz.results21, go_sem]) rfl ⟨by rw [H2.out], rfl⟩
        · have hk' : k = s.size - 1 := by omega
          subst hk'
          have H3 := H.out hg
          clear hlt hg
          go_wp2
          refine bodyPost_ret (v := .tuple #[.string (s.extract 1 s.size), .bool true, .bool true]) (by simp [results, Tryz.results21, go_sem]) rfl ⟨by rw [H3], rfl⟩

theorem walk_plain (s : ByteArray) (w : World) (hs : s.size ≤ 400) : Calls Tryz.prog 21 #[.string s] w (PlainPost s w) := by
  by_cases h0 : s.size = 0
  · exact plain_empty s w h0
  · by_cases h1 : ((s[0].toNat : Int) == 45) = true
    · exact plain_neg s w hs (by omega) h1
    · exact plain_pos s w hs (by omega) (by simpa using h1)
end Go.Proofs

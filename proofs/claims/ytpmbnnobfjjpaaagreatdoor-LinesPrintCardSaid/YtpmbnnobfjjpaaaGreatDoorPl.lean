/- The plain law of a script's words. -/
import Derived.Test.YtpmbnnobfjjpaaaGreatDoorWc
import Derived.Lib.IndexMore
namespace Go.Proofs
set_option linter.unusedVariables false
set_option linter.unusedSimpArgs false
open Go.RowKit Go.Lns

def wordO (s : ByteArray) : Option Int := if fmtB s = true ∧ (digB s).size ≤ 9 then some (wordVal s) else none
def wordL (l : List UInt8) : Option Int := wordO ⟨l.toArray⟩
theorem wordL_data (s : ByteArray) : wordL s.data.toList = wordO s := by
  unfold wordL; congr 1

theorem wordVal_bd {s : ByteArray} (h : fmtB s = true) (h9 : (digB s).size ≤ 9) : -999999999 ≤ wordVal s ∧ wordVal s ≤ 999999999 := by
  have hdl : digL s.data.toList = (digB s).data.toList := (digB_data s).symm
  have hdg : digs (digB s) (digB s).size := by
    have : fmtL s.data.toList = true := h
    unfold fmtL at this
    rw [hdl] at this
    simp only [Bool.and_eq_true] at this
    exact (all_digs _).1 this.2.2
  have hv := valP_bd _ _ hdg
  have hp := pow_small (digB s).size 9 h9
  simp at hp
  unfold wordVal
  split <;> omega

theorem ref_some {s : ByteArray} {n er v : Int} (h : RefSpec s n er) (hv : wordO s = some v) : er = 0 ∧ n = v ∧ -999999999 ≤ v ∧ v ≤ 999999999 := by
  unfold wordO at hv
  split at hv
  · rename_i hc
    cases hv
    obtain ⟨h1, h2⟩ := h.2.1 hc.1 hc.2
    exact ⟨h1, h2, (wordVal_bd hc.1 hc.2).1, (wordVal_bd hc.1 hc.2).2⟩
  · cases hv
theorem ref_none {s : ByteArray} {n er : Int} (h : RefSpec s n er) (hv : wordO s = none) : er ≠ 0 ∨ n < -999999999 ∨ 999999999 < n := by
  unfold wordO at hv
  split at hv
  · cases hv
  · rename_i hc
    cases hf : fmtB s
    · left; rw [h.1 hf]; decide
    · by_cases h9 : (digB s).size ≤ 9
      · exact absurd ⟨hf, h9⟩ hc
      · exact h.2.2 hf (by omega)

theorem accL_val (d : ByteArray) (h : digs d d.size) (h9 : d.size ≤ 9) : ∀ (k : Nat), k ≤ d.size → accL d.data.toList 0 = accL (d.data.toList.drop k) (-(valP d k))
  | 0, _ => rfl
  | k + 1, hk => by
    rw [accL_val d h h9 k (by omega), accL_drop d k (by omega)]
    have hv := valP_bd d k (fun j hj => h j (by omega))
    have hp := pow_small k 8 (by omega)
    simp at hp
    have hd := h k (by omega) (by omega)
    have hn : ¬ -(valP d k) < (-4611686018427387904 + ((d[k].toNat : Int) - 48)).tdiv 10 := by
      have := Int.mul_tdiv_add_tmod (-4611686018427387904 + ((d[k].toNat : Int) - 48)) 10
      have e1 : (-4611686018427387904 + ((d[k].toNat : Int) - 48)) = -(4611686018427387904 - ((d[k].toNat : Int) - 48)) := by omega
      have e2 : (-4611686018427387904 + ((d[k].toNat : Int) - 48)).tmod 10 = -((4611686018427387904 - ((d[k].toNat : Int) - 48)).tmod 10) := by rw [e1, Int.neg_tmod]
      have h1 := Int.tmod_nonneg 10 (show 0 ≤ 4611686018427387904 - ((d[k].toNat : Int) - 48) by omega)
      have h2 := Int.tmod_lt_of_pos (4611686018427387904 - ((d[k].toNat : Int) - 48)) (b := 10) (by omega)
      omega
    rw [stepA_some hn]
    show accL _ (10 * -(valP d k) - ((d[k].toNat : Int) - 48)) = accL _ (-(10 * valP d k + dv d k))
    rw [dv_eq d k (by omega)]
    congr 1
    omega

theorem read_some {s : ByteArray} {v : Int} (hv : wordO s = some v) : readL s.data.toList = (v, 0) := by
  unfold wordO at hv
  split at hv
  · rename_i hc
    cases hv
    have hdl : digL s.data.toList = (digB s).data.toList := (digB_data s).symm
    have hf : fmtL s.data.toList = true := hc.1
    have hdg : digs (digB s) (digB s).size := by
      have := hf
      unfold fmtL at this
      rw [hdl] at this
      simp only [Bool.and_eq_true] at this
      exact (all_digs _).1 this.2.2
    have ha : accL (digB s).data.toList 0 = some (-(valP (digB s) (digB s).size)) := by rw [accL_val _ hdg hc.2 _ (Nat.le_refl _), accL_end]
    have hb := wordVal_bd hc.1 hc.2
    have hw : wordVal s = if negL s.data.toList then -(valP (digB s) (digB s).size) else valP (digB s) (digB s).size := rfl
    unfold readL
    rw [if_pos hf, hdl, ha]
    have he : (if negL s.data.toList then -(valP (digB s) (digB s).size) else - -(valP (digB s) (digB s).size)) = wordVal s := by
      rw [hw]; split
      · rfl
      · omega
    show (if inI (if negL s.data.toList then -(valP (digB s) (digB s).size) else - -(valP (digB s) (digB s).size)) then _ else _) = _
    rw [he, if_pos (by unfold inI; exact decide_eq_true (by omega))]
  · cases hv

theorem trim_eq (l : List UInt8) : Lib.trimPrefix l [45] = digL l := by
  unfold Lib.trimPrefix digL negL
  cases l with
  | nil => rfl
  | cons c r =>
    show (if Lib.hasPrefix (c :: r) [45] = true then r else c :: r) = if ((some c == some (45 : UInt8)) = true) then r else c :: r
    have : Lib.hasPrefix (c :: r) [45] = (some c == some (45 : UInt8)) := by
      show ((45 : UInt8) == c && true) = (c == 45)
      rw [Bool.and_true, Bool.eq_iff_iff, beq_iff_eq, beq_iff_eq]
      exact eq_comm
    rw [this]

theorem read_none {s : ByteArray} (hv : wordO s = none) : (readL s.data.toList).2 ≠ 0 ∨ 9 < (Lib.trimPrefix s.data.toList [45]).length := by
  unfold wordO at hv
  split at hv
  · cases hv
  · rename_i hc
    cases hf : fmtB s
    · left
      have : fmtL s.data.toList = false := hf
      unfold readL; rw [if_neg (by rw [this]; decide)]; decide
    · right
      have : ¬ (digB s).size ≤ 9 := fun h => hc ⟨hf, h⟩
      rw [trim_eq, ← digB_data, Array.length_toList]
      show 9 < (digB s).size
      omega
theorem trim_some {s : ByteArray} {v : Int} (hv : wordO s = some v) : (Lib.trimPrefix s.data.toList [45]).length ≤ 9 := by
  unfold wordO at hv
  split at hv
  · rename_i hc
    rw [trim_eq, ← digB_data, Array.length_toList]; exact hc.2
  · cases hv

/-- the numbers of a text, from its words on: what has come of the word in hand -/
def scanR : List UInt8 → List UInt8 → Option (List Int)
  | pre, [] => match wordL pre with | none => none | some v => some [v]
  | pre, c :: r => if c = 32 then (match wordL pre with | none => none | some v => match scanR [] r with | none => none | some l => some (v :: l)) else scanR (pre ++ [c]) r

def scanC (pre l : List UInt8) : Option (List Int) :=
  match wordL (pre ++ (Lib.cut l [32]).1) with
  | none => none
  | some v => if (Lib.cut l [32]).2.2 = true then (match scanR [] (Lib.cut l [32]).2.1 with | none => none | some x => some (v :: x)) else some [v]

theorem cut_nil : Lib.cut [] [32] = ([], [], false) := by decide
theorem cut_sp (r : List UInt8) : Lib.cut (32 :: r) [32] = ([], r, true) := by
  have : Lib.index (32 :: r) [32] = 0 := by unfold Lib.index; simp [List.isPrefixOf]
  unfold Lib.cut; rw [this]; rfl
theorem cut_ne (c : UInt8) (r : List UInt8) (h : c ≠ 32) : Lib.cut (c :: r) [32] = (c :: (Lib.cut r [32]).1, (Lib.cut r [32]).2.1, (Lib.cut r [32]).2.2) := by
  have hi : Lib.index (c :: r) [32] = if Lib.index r [32] == -1 then -1 else Lib.index r [32] + 1 := by
    rw [Lib.index.eq_2]
    have : ([32] : List UInt8).isPrefixOf (c :: r) = false := by simp [List.isPrefixOf, Ne.symm h]
    rw [this]; rfl
  have hg := Lib.index_ge r [32]
  unfold Lib.cut
  rw [hi]
  by_cases h1 : Lib.index r [32] = -1
  · rw [h1]; rfl
  · have h2 : 0 ≤ Lib.index r [32] := by omega
    have h3 : (Lib.index r [32] == -1) = false := by simpa using h1
    rw [h3]
    have e : (Lib.index r [32] + 1).toNat = (Lib.index r [32]).toNat + 1 := by omega
    simp only [Bool.false_eq_true, if_false]
    rw [if_pos h2, if_pos (by omega), e]
    rfl

theorem scanR_cut : ∀ (l pre : List UInt8), scanR pre l = scanC pre l
  | [], pre => by unfold scanR scanC; rw [cut_nil]; simp only [List.append_nil]; cases wordL pre <;> rfl
  | c :: r, pre => by
    unfold scanR
    by_cases h : c = 32
    · subst h
      rw [if_pos rfl]
      unfold scanC
      rw [cut_sp]
      simp only [List.append_nil]
      cases wordL pre <;> rfl
    · rw [if_neg h, scanR_cut r (pre ++ [c])]
      unfold scanC
      rw [cut_ne c r h]
      simp only [List.append_assoc, List.singleton_append]

def errOf (o : Option (List Int)) : Int := match o with | some _ => 0 | none => 40
def outOf (o : Option (List Int)) : List Int := match o with | some l => l | none => []
/-- a script's numbers -/
def script (l : List UInt8) : Option (List Int) := if l = [] then some [] else scanR [] l

theorem cut_len (l : List UInt8) (h : (Lib.cut l [32]).2.2 = true) : (Lib.cut l [32]).2.1.length < l.length := by
  induction l with
  | nil => rw [cut_nil] at h; cases h
  | cons c r ih =>
    by_cases e : c = 32
    · subst e; rw [cut_sp]; simp
    · rw [cut_ne c r e] at h ⊢
      have := ih h
      simp only [List.length_cons]; omega
theorem cut_len1 (l : List UInt8) : (Lib.cut l [32]).1.length ≤ l.length := by
  induction l with
  | nil => rw [cut_nil]; simp
  | cons c r ih =>
    by_cases e : c = 32
    · subst e; rw [cut_sp]; simp
    · rw [cut_ne c r e]; simp only [List.length_cons]; omega

end Go.Proofs

/- Plain definitions: the format of an integer's text. -/
import Derived.Lib.Strings
import Derived.KernelRfl
import Derived.Lib.Hide
namespace Go.Lns
set_option linter.unusedVariables false
set_option linter.unusedSimpArgs false

def isDig (c : UInt8) : Bool := decide (48 ≤ c.toNat) && decide (c.toNat ≤ 57)
def negL (l : List UInt8) : Bool := l.head? == some 45
def digL (l : List UInt8) : List UInt8 := if negL l then l.tail else l
def fmtL (l : List UInt8) : Bool := !(digL l).isEmpty && (!((digL l).head? == some 48 && (decide (1 < (digL l).length) || negL l)) && (digL l).all isDig)
def negB (s : ByteArray) : Bool := negL s.data.toList
def digB (s : ByteArray) : ByteArray := if negB s then s.extract 1 s.size else s
def fmtB (s : ByteArray) : Bool := fmtL s.data.toList

theorem digB_data (s : ByteArray) : (digB s).data.toList = digL s.data.toList := by
  unfold digB digL negB
  split
  · rw [Lib.extract_data]
    rw [List.drop_one, List.take_of_length_le]
    simp
  · rfl

theorem negB_of (s : ByteArray) (h : 0 < s.size) : negB s = (s[0] == 45) := by
  unfold negB negL
  have : s.data.toList.head? = some s[0] := by
    rw [List.head?_eq_getElem?, List.getElem?_eq_getElem (by simpa using h)]; rfl
  rw [this]; rfl

theorem negB_empty (s : ByteArray) (h : s.size = 0) : negB s = false := by
  unfold negB negL
  have : s.data.toList = [] := by apply List.eq_nil_of_length_eq_zero; simpa using h
  rw [this]; rfl

/-- the first k bytes are digits -/
def digs (d : ByteArray) (k : Nat) : Prop := ∀ j, j < k → ∀ h : j < d.size, 48 ≤ d[j].toNat ∧ d[j].toNat ≤ 57

theorem all_digs (d : ByteArray) : d.data.toList.all isDig = true ↔ digs d d.size := by
  rw [List.all_eq_true]
  constructor
  · intro h j hj hl
    have := h d[j] (by rw [List.mem_iff_getElem]; exact ⟨j, by simpa using hl, rfl⟩)
    simpa [isDig] using this
  · intro h x hx
    obtain ⟨j, hj, rfl⟩ := List.mem_iff_getElem.1 hx
    have hj' : j < d.size := by simpa using hj
    have := h j hj' hj'
    simp only [isDig, Bool.and_eq_true, decide_eq_true_eq]
    exact this

theorem not_digs (d : ByteArray) (k : Nat) (hk : k < d.size) (h : ¬ (48 ≤ d[k].toNat ∧ d[k].toNat ≤ 57)) : d.data.toList.all isDig = false := by
  cases e : d.data.toList.all isDig
  · rfl
  · exact absurd ((all_digs d).1 e k hk hk) h

theorem isEmpty_toList (s : ByteArray) : s.toList.isEmpty = decide (s.size = 0) := by
  rw [Lib.toList_data, Bool.eq_iff_iff, List.isEmpty_iff_length_eq_zero, decide_eq_true_iff]
  rfl

end Go.Lns

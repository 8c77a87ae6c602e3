/- MayLabel ranges over a string: its walk by the kit's laws. -/
import Derived.Test.YtehcfmohjcjmpaaSxFin
import Derived.Test.YtehcfmohjcjmpaaChecked
import Derived.WalkKit
import Derived.LoopTactic
import Derived.Laws.RangeAny
import Derived.Laws.RangeString
import Derived.Laws.Strings
namespace Go.Proofs.Ytehcfmohjcjmpaa
open Go Go.RowKit

/-- letters that may be, up to a place -/
def mayTo (s : ByteArray) (n : Nat) : Prop := ∀ i, (h : i < s.size) → i < n → 32 ≤ (s[i]'h).toNat ∧ (s[i]'h).toNat ≤ 126
def mayB (s : ByteArray) : Bool := s.data.toList.all fun b => decide (32 ≤ b.toNat) && decide (b.toNat ≤ 126)
theorem mayB_true {s : ByteArray} (h : mayTo s s.size) : mayB s = true := by
  unfold mayB
  rw [List.all_eq_true]
  intro b hb
  obtain ⟨i, hi, rfl⟩ := List.mem_iff_getElem.1 hb
  have hi' : i < s.size := by simpa using hi
  obtain ⟨h1, h2⟩ := h i hi' hi'
  have e : s[i] = s.data.toList[i] := by simp; rfl
  rw [e] at h1 h2
  exact Bool.and_eq_true_iff.2 ⟨decide_eq_true h1, decide_eq_true h2⟩
theorem mayB_false {s : ByteArray} {i : Nat} (hi : i < s.size) (h : ¬ (32 ≤ (s[i]'hi).toNat ∧ (s[i]'hi).toNat ≤ 126)) : mayB s = false := by
  unfold mayB
  rw [List.all_eq_false]
  have hi' : i < s.data.toList.length := by simpa using hi
  refine ⟨s.data.toList[i], List.getElem_mem _, ?_⟩
  have e : s[i] = s.data.toList[i] := by simp; rfl
  rw [e] at h
  simpa using h

theorem bad_of {s : ByteArray} {pos : Nat} (hp : pos < s.size) (h : ((Utf8.decode s pos).1 : Int) < 32 ∨ 126 < ((Utf8.decode s pos).1 : Int)) : mayB s = false := by
  refine mayB_false hp fun ⟨h1, h2⟩ => ?_
  have ha : (s[pos]'hp).toNat < 128 := by omega
  rw [decode_ascii s pos hp ha] at h
  simp only at h
  omega
theorem good_of {s : ByteArray} {pos : Nat} (hp : pos < s.size) (h : 32 ≤ ((Utf8.decode s pos).1 : Int) ∧ ((Utf8.decode s pos).1 : Int) ≤ 126) : (Utf8.decode s pos).2 = 1 ∧ 32 ≤ (s[pos]'hp).toNat ∧ (s[pos]'hp).toNat ≤ 126 := by
  by_cases ha : (s[pos]'hp).toNat < 128
  · rw [decode_ascii s pos hp ha] at h ⊢
    simp only at h
    exact ⟨rfl, by omega, by omega⟩
  · have := (decode_high s pos hp (by omega)).1
    omega
theorem mayTo_succ {s : ByteArray} {pos : Nat} (hp : pos < s.size) (hm : mayTo s pos) (h : 32 ≤ (s[pos]'hp).toNat ∧ (s[pos]'hp).toNat ≤ 126) : mayTo s (pos + 1) := by
  intro i hi hlt
  by_cases e : i = pos
  · subst e; exact h
  · exact hm i hi (by omega)

set_option maxRecDepth 1000000 in
theorem mayLabel_walk (s : ByteArray) (w : World) :
    Calls Try.prog 14 #[.string s] w fun e w' => e = .returned (.bool (mayB s && decide ((s.size : Int) ≤ 16))) ∧ ∃ pos, w' = w.iter s pos := by
  go_enter Try.func14, Try.ntmps14
  go_wp2
  go_loopw [] (fun w' => ∃ (pos : Nat), w' = w.iter s pos ∧ mayTo s pos) (fun w' => s.size - w'.iterPos w.heap.size)
  case atStart => exact ⟨0, rfl, fun i _ h => absurd h (Nat.not_lt_zero _)⟩
  case round =>
    obtain ⟨pos, rfl, hm⟩ := hrel
    by_cases hp : pos < s.size
    · have hnx : ∀ ty, (Instr.next (.pointer (some ⟨w.heap.size, 0, none⟩)) true ty).run Try.prog (w.iter s pos) = _ := fun ty => run_next_any w s pos ty hp
      go_wp2
      case roundEnd h1 h2 =>
        obtain ⟨g1, g2⟩ := good_of hp h2
        rw [g1]
        refine ⟨⟨pos + 1, rfl, mayTo_succ hp hm g2⟩, ?_⟩
        simp
        omega
      · rename_i h
        have hb := bad_of hp h
        go_ret
        rw [hb]
        exact ⟨rfl, _, rfl⟩
      · rename_i h
        have hb := bad_of hp (.inl h)
        go_ret
        rw [hb]
        exact ⟨rfl, _, rfl⟩
    · have hnx : ∀ ty, (Instr.next (.pointer (some ⟨w.heap.size, 0, none⟩)) true ty).run Try.prog (w.iter s pos) = _ := fun ty => run_next_end w s pos ty hp
      have hb : mayB s = true := mayB_true fun i hi _ => hm i hi (by omega)
      go_wp2
      go_ret
      rw [hb]
      exact ⟨rfl, _, rfl⟩
namespace Sx
def mayG : List TV → Option TV
  | [.str s] => some (.bool (mayB s && decide ((s.size : Int) ≤ 16)))
  | _ => none
theorem may_ok : EntOK Try.prog 14 (.ext mayG) := by
  intro args r h
  unfold mayG at h
  split at h
  · rename_i s
    obtain rfl := Option.some.inj h
    refine ⟨⟨_, Try.func14, by decide, rfl⟩, fun w ok vs hok hv => ?_⟩
    obtain ⟨v, r, rfl, _, ht, rfl⟩ := hv
    obtain rfl := ht
    refine (mayLabel_walk s w).mono fun e w' ⟨he, pos, hw⟩ => ?_
    subst hw
    have hb : Below w.heap.size w (w.iter s pos) := (Below.refl _ w).alloc (Nat.le_refl _) _
    refine ⟨_, he, hb, ok, [], fun b hb' => ⟨fun _ => hb', Nat.lt_of_lt_of_le (hok b hb') hb.size⟩, ⟨by simp, by simp⟩, ?_⟩
    exact ⟨rfl, rfl⟩
  · cases h
end Sx
end Go.Proofs.Ytehcfmohjcjmpaa

/- The forms of this seat's arguments. -/
import Derived.Test.YtonhkmpjpnjkfaaRows
import Derived.Test.YtonhkmpjpnjkfaaSxG4
import Derived.Test.YtonhkmpjpnjkfaaSxG6
import Derived.Test.YtonhkmpjpnjkfaaSxG7
set_option maxRecDepth 100000
set_option linter.unusedSimpArgs false
set_option linter.unusedVariables false
namespace Go.Proofs.Ytonhkmpjpnjkfaa.Sx
open Go Go.RowKit Go.ChangeShapes Go.WideShapes Go.ChangeAt
set_option maxRecDepth 100000
theorem agg_of {t : TypeId} {n : Nat} {a : TV} (hagg : isAggB Try.prog t = true) (h : ArgShape Try.prog n t a) : ∃ ts, a = .agg ts ∧ Shape Try.prog n t ts := by
  unfold ArgShape at h; rw [if_pos hagg] at h; exact h
theorem plain_of {t : TypeId} {n : Nat} {a : TV} (hagg : isAggB Try.prog t = false) (h : ArgShape Try.prog n t a) : Shape Try.prog n t [a] := by
  unfold ArgShape at h; rw [if_neg (by rw [hagg]; simp)] at h; exact h
theorem own : ownKnob Try.prog.godebug = none := by kernel_rfl
theorem laidOut : laidOutB Try.prog = true := by kernel_rfl
/-- rows that are each of a form are a list's -/
theorem rows_list {α : Type} {c : α → List TV} {S : List TV → Prop} {Q : α → Prop} (h : ∀ ts, S ts → ∃ x, ts = c x ∧ Q x) : ∀ {rows : List (List TV)}, (∀ r ∈ rows, S r) → ∃ l : List α, rows = rowsBy c l ∧ ∀ x ∈ l, Q x
  | [], _ => ⟨[], rfl, by simp⟩
  | r :: rows, hr => by
    obtain ⟨x, rfl, hx⟩ := h r (hr r (by simp))
    obtain ⟨l, rfl, hl⟩ := rows_list h (rows := rows) fun q hq => hr q (by simp [hq])
    refine ⟨x :: l, rfl, fun y hy => ?_⟩
    rcases List.mem_cons.1 hy with rfl | hy
    · exact hx
    · exact hl y hy
theorem shInt {n : Nat} {ts : List TV} (h : Shape Try.prog (n + 1) 3 ts) : ∃ a, ts = [.int .i64 a] ∧ IntKind.i64.has a := by
  unfold Shape at h; rw [Try.underlying3] at h; exact h
theorem shStr {n : Nat} {ts : List TV} (h : Shape Try.prog (n + 1) 9 ts) : ∃ a : ByteArray, ts = [.str a] ∧ a.size ≤ 140737488351232 := by
  unfold Shape at h; rw [Try.underlying9] at h
  obtain ⟨a, rfl, _, ha⟩ := h; exact ⟨a, rfl, ha⟩
theorem shID {n : Nat} {ts : List TV} (h : Shape Try.prog (n + 2) 35 ts) : ∃ x : ID, ts = ID.c x := by
  unfold Shape at h; rw [Try.underlying35] at h
  obtain ⟨x, r, rfl, h1, y, r', rfl, h2, rfl⟩ := h
  obtain ⟨a, rfl, ha⟩ := shInt h1
  obtain ⟨b, rfl, hb⟩ := shInt h2
  exact ⟨⟨a, b⟩, rfl⟩
theorem shDart {n : Nat} {ts : List TV} (h : Shape Try.prog (n + 3) 39 ts) : ∃ x : Dart, ts = Dart.c x := by
  unfold Shape at h; rw [Try.underlying39] at h
  obtain ⟨x, r, rfl, h1, y, r', rfl, h2, rfl⟩ := h
  obtain ⟨e, rfl⟩ := shID h1
  obtain ⟨c, rfl, _⟩ := shInt h2
  exact ⟨⟨e, c⟩, rfl⟩
theorem shDarts {n : Nat} {ts : List TV} (h : Shape Try.prog (n + 4) 40 ts) : ∃ l : List Dart, ts = [.sl .shared 3 (rowsBy Dart.c l)] ∧ Fits l := by
  unfold Shape at h; rw [Try.underlying40] at h
  obtain ⟨rows, rfl, ⟨_, hb⟩, hr⟩ := h
  obtain ⟨l, rfl, _⟩ := rows_list (c := Dart.c) (Q := fun _ => True) (fun ts h => (shDart h).imp fun _ h => ⟨h, trivial⟩) hr
  refine ⟨l, rfl, Fits.of ?_⟩
  rw [rowsBy_length, show Try.prog.bytesOf 39 = 24 by kernel_rfl] at hb
  simp only [reachBytes] at hb
  omega
def VxOk (v : Vx) : Prop := Fits v.ring ∧ v.label.size ≤ 9223372036854775807
def EdOk (v : Ed) : Prop := v.label.size ≤ 9223372036854775807
theorem shVx {n : Nat} {ts : List TV} (h : Shape Try.prog (n + 5) 42 ts) : ∃ x : Vx, ts = Vx.c x ∧ VxOk x := by
  unfold Shape at h; rw [Try.underlying42] at h
  obtain ⟨x, r, rfl, h1, y, r', rfl, h2, z, r'', rfl, h3, u, r3, rfl, h4, rfl⟩ := h
  obtain ⟨e, rfl⟩ := shID h1
  obtain ⟨l, rfl, hl⟩ := shDarts h2
  obtain ⟨s, rfl, hs⟩ := shStr h3
  obtain ⟨c, rfl, _⟩ := shInt h4
  exact ⟨⟨e, l, s, c⟩, rfl, hl, Nat.le_trans hs (by decide)⟩
theorem shEd {n : Nat} {ts : List TV} (h : Shape Try.prog (n + 3) 37 ts) : ∃ x : Ed, ts = Ed.c x ∧ EdOk x := by
  unfold Shape at h; rw [Try.underlying37] at h
  obtain ⟨x, r, rfl, h1, z, r'', rfl, h3, u, r3, rfl, h4, rfl⟩ := h
  obtain ⟨e, rfl⟩ := shID h1
  obtain ⟨s, rfl, hs⟩ := shStr h3
  obtain ⟨c, rfl, _⟩ := shInt h4
  exact ⟨⟨e, s, c⟩, rfl, Nat.le_trans hs (by decide)⟩
theorem shVxs {n : Nat} {ts : List TV} (h : Shape Try.prog (n + 6) 22 ts) : ∃ l : List Vx, ts = [.sl .shared 5 (rowsBy Vx.c l)] ∧ ∀ v ∈ l, VxOk v := by
  unfold Shape at h; rw [Try.underlying22] at h
  obtain ⟨rows, rfl, _, hr⟩ := h
  obtain ⟨l, rfl, hl⟩ := rows_list (c := Vx.c) (fun ts h => shVx h) hr
  exact ⟨l, rfl, hl⟩
theorem shEds {n : Nat} {ts : List TV} (h : Shape Try.prog (n + 4) 23 ts) : ∃ l : List Ed, ts = [.sl .shared 4 (rowsBy Ed.c l)] ∧ ∀ v ∈ l, EdOk v := by
  unfold Shape at h; rw [Try.underlying23] at h
  obtain ⟨rows, rfl, _, hr⟩ := h
  obtain ⟨l, rfl, hl⟩ := rows_list (c := Ed.c) (fun ts h => shEd h) hr
  exact ⟨l, rfl, hl⟩
theorem shDiagram {n : Nat} {ts : List TV} (h : Shape Try.prog (n + 7) 25 ts) : ∃ (vs : List Vx) (es : List Ed), ts = [.sl .shared 5 (rowsBy Vx.c vs), .sl .shared 4 (rowsBy Ed.c es)] ∧ FitsR vs ∧ FitsL vs es := by
  unfold Shape at h; rw [Try.underlying25] at h
  obtain ⟨x, r, rfl, h1, z, r'', rfl, h3, rfl⟩ := h
  obtain ⟨d, rfl, hd⟩ := shVxs h1
  obtain ⟨e, rfl, he⟩ := shEds h3
  exact ⟨d, e, rfl, fun v hv => (hd v hv).1, fun v hv => (hd v hv).2, he⟩
end Go.Proofs.Ytonhkmpjpnjkfaa.Sx

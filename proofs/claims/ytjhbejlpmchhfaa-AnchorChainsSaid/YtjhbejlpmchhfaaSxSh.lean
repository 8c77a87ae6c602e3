/- The forms of this seat's arguments. -/
import Derived.Test.YtjhbejlpmchhfaaSxFns
import Derived.Test.YtjhbejlpmchhfaaSxState
import Derived.Test.YtjhbejlpmchhfaaSxRead
import Derived.Test.YtjhbejlpmchhfaaRows
namespace Go.Proofs.Ytjhbejlpmchhfaa.Sx
open Go Go.RowKit Go.ChangeShapes Go.WideShapes Go.ChangeAt
theorem shInt {n : Nat} {ts : List TV} (h : Shape Try.prog (n + 1) 3 ts) : ∃ a, ts = [.int .i64 a] ∧ IntKind.i64.has a := by
  unfold Shape at h; rw [Try.underlying3] at h; exact h
theorem shBool {n : Nat} {ts : List TV} (h : Shape Try.prog (n + 1) 4 ts) : ∃ b, ts = [.bool b] := by
  unfold Shape at h; rw [Try.underlying4] at h; exact h
theorem shStr {n : Nat} {ts : List TV} (h : Shape Try.prog (n + 1) 9 ts) : ∃ a, ts = [.str a] := by
  unfold Shape at h; rw [Try.underlying9] at h
  obtain ⟨a, rfl, _⟩ := h; exact ⟨a, rfl⟩
theorem shID {n : Nat} {ts : List TV} (h : Shape Try.prog (n + 2) 30 ts) : ∃ x : ID, ts = ID.c x := by
  unfold Shape at h; rw [Try.underlying30] at h
  obtain ⟨x, r, rfl, h1, y, r', rfl, h2, rfl⟩ := h
  obtain ⟨a, rfl, ha⟩ := shInt h1
  obtain ⟨b, rfl, hb⟩ := shInt h2
  exact ⟨⟨a, b⟩, rfl⟩
theorem shDart {n : Nat} {ts : List TV} (h : Shape Try.prog (n + 3) 32 ts) : ∃ x : Dart, ts = Dart.c x := by
  unfold Shape at h; rw [Try.underlying32] at h
  obtain ⟨x, r, rfl, h1, y, r', rfl, h2, rfl⟩ := h
  obtain ⟨e, rfl⟩ := shID h1
  obtain ⟨c, rfl, _⟩ := shInt h2
  exact ⟨⟨e, c⟩, rfl⟩
theorem agg_of {t : TypeId} {n : Nat} {a : TV} (hagg : isAggB Try.prog t = true) (h : ArgShape Try.prog n t a) : ∃ ts, a = .agg ts ∧ Shape Try.prog n t ts := by
  unfold ArgShape at h; rw [if_pos hagg] at h; exact h
theorem plain_of {t : TypeId} {n : Nat} {a : TV} (hagg : isAggB Try.prog t = false) (h : ArgShape Try.prog n t a) : Shape Try.prog n t [a] := by
  unfold ArgShape at h; rw [if_neg (by rw [hagg]; simp)] at h; exact h
theorem own : ownKnob Try.prog.godebug = none := by kernel_rfl
theorem laidOut : laidOutB Try.prog = true := by kernel_rfl
/-- rows that are each of a form are a list's -/
theorem rows_list {α : Type} {c : α → List TV} {S : List TV → Prop} (h : ∀ ts, S ts → ∃ x, ts = c x) : ∀ {rows : List (List TV)}, (∀ r ∈ rows, S r) → ∃ l : List α, rows = rowsBy c l
  | [], _ => ⟨[], rfl⟩
  | r :: rows, hr => by
    obtain ⟨x, rfl⟩ := h r (hr r (by simp))
    obtain ⟨l, rfl⟩ := rows_list h (rows := rows) fun q hq => hr q (by simp [hq])
    exact ⟨x :: l, rfl⟩
theorem shDarts {n : Nat} {ts : List TV} (h : Shape Try.prog (n + 4) 41 ts) : ∃ l : List Dart, ts = [.sl .shared 3 (rowsBy Dart.c l)] := by
  unfold Shape at h; rw [Try.underlying41] at h
  obtain ⟨rows, rfl, _, hr⟩ := h
  obtain ⟨l, rfl⟩ := rows_list (c := Dart.c) (fun ts h => shDart h) hr
  exact ⟨l, rfl⟩
theorem shVx {n : Nat} {ts : List TV} (h : Shape Try.prog (n + 5) 43 ts) : ∃ x : Vx, ts = Vx.c x := by
  unfold Shape at h; rw [Try.underlying43] at h
  obtain ⟨x, r, rfl, h1, y, r', rfl, h2, z, r'', rfl, h3, u, r3, rfl, h4, rfl⟩ := h
  obtain ⟨e, rfl⟩ := shID h1
  obtain ⟨l, rfl⟩ := shDarts h2
  obtain ⟨s, rfl⟩ := shStr h3
  obtain ⟨c, rfl, _⟩ := shInt h4
  exact ⟨⟨e, l, s, c⟩, rfl⟩
theorem shEd {n : Nat} {ts : List TV} (h : Shape Try.prog (n + 3) 65 ts) : ∃ x : Ed, ts = Ed.c x := by
  unfold Shape at h; rw [Try.underlying65] at h
  obtain ⟨x, r, rfl, h1, z, r'', rfl, h3, u, r3, rfl, h4, rfl⟩ := h
  obtain ⟨e, rfl⟩ := shID h1
  obtain ⟨s, rfl⟩ := shStr h3
  obtain ⟨c, rfl, _⟩ := shInt h4
  exact ⟨⟨e, s, c⟩, rfl⟩
theorem shGn {n : Nat} {ts : List TV} (h : Shape Try.prog (n + 4) 55 ts) : ∃ x : Gn, ts = Gn.c x := by
  unfold Shape at h; rw [Try.underlying55] at h
  obtain ⟨x, r, rfl, h1, z, r'', rfl, h3, rfl⟩ := h
  obtain ⟨d, rfl⟩ := shDart h1
  obtain ⟨e, rfl⟩ := shDart h3
  exact ⟨⟨d, e⟩, rfl⟩
theorem shVxs {n : Nat} {ts : List TV} (h : Shape Try.prog (n + 6) 22 ts) : ∃ l : List Vx, ts = [.sl .shared 5 (rowsBy Vx.c l)] := by
  unfold Shape at h; rw [Try.underlying22] at h
  obtain ⟨rows, rfl, _, hr⟩ := h
  obtain ⟨l, rfl⟩ := rows_list (c := Vx.c) (fun ts h => shVx h) hr
  exact ⟨l, rfl⟩
theorem shEds {n : Nat} {ts : List TV} (h : Shape Try.prog (n + 4) 23 ts) : ∃ l : List Ed, ts = [.sl .shared 4 (rowsBy Ed.c l)] := by
  unfold Shape at h; rw [Try.underlying23] at h
  obtain ⟨rows, rfl, _, hr⟩ := h
  obtain ⟨l, rfl⟩ := rows_list (c := Ed.c) (fun ts h => shEd h) hr
  exact ⟨l, rfl⟩
theorem shGns {n : Nat} {ts : List TV} (h : Shape Try.prog (n + 5) 26 ts) : ∃ l : List Gn, ts = [.sl .shared 6 (rowsBy Gn.c l)] := by
  unfold Shape at h; rw [Try.underlying26] at h
  obtain ⟨rows, rfl, _, hr⟩ := h
  obtain ⟨l, rfl⟩ := rows_list (c := Gn.c) (fun ts h => shGn h) hr
  exact ⟨l, rfl⟩
theorem shDiagram {n : Nat} {ts : List TV} (h : Shape Try.prog (n + 7) 25 ts) : ∃ (vs : List Vx) (es : List Ed), ts = [.sl .shared 5 (rowsBy Vx.c vs), .sl .shared 4 (rowsBy Ed.c es)] := by
  unfold Shape at h; rw [Try.underlying25] at h
  obtain ⟨x, r, rfl, h1, z, r'', rfl, h3, rfl⟩ := h
  obtain ⟨d, rfl⟩ := shVxs h1
  obtain ⟨e, rfl⟩ := shEds h3
  exact ⟨d, e, rfl⟩
theorem shState {n : Nat} {ts : List TV} (h : Shape Try.prog (n + 8) 28 ts) : ∃ (vs : List Vx) (es : List Ed) (gs : List Gn), ts = [.sl .shared 5 (rowsBy Vx.c vs), .sl .shared 4 (rowsBy Ed.c es), .sl .shared 6 (rowsBy Gn.c gs)] := by
  unfold Shape at h; rw [Try.underlying28] at h
  obtain ⟨x, r, rfl, h1, z, r'', rfl, h3, rfl⟩ := h
  obtain ⟨d, e, rfl⟩ := shDiagram h1
  obtain ⟨g, rfl⟩ := shGns h3
  exact ⟨d, e, g, rfl⟩
end Go.Proofs.Ytjhbejlpmchhfaa.Sx

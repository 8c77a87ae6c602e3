/- AnchorChains: through as many that are gone as there are. -/
import Derived.Test.YtjhbejlpmchhfaaSxN
namespace Go.Proofs.Ytjhbejlpmchhfaa.Sx
open Go
theorem and63 (x : Int) : ∃ k : Nat, k < 64 ∧ IntKind.i64.wrap (andB .i64 x 63) = (k : Int) := by
  have h : (BitVec.ofInt IntKind.i64.bits x &&& BitVec.ofInt IntKind.i64.bits 63).toNat ≤ 63 := by
    rw [BitVec.toNat_and]
    exact Nat.and_le_right
  refine ⟨_, Nat.lt_succ_of_le h, ?_⟩
  unfold andB
  exact wrap64 (by omega) (by omega)
def dN (m : Nat) : Dart := ⟨⟨1, (m : Int)⟩, 0⟩
theorem dN_inj {a b : Nat} (h : dN a = dN b) : a = b := by
  have := congrArg (fun d => d.e.n) h
  simp only [dN] at this
  omega
def linkN (n : Nat) (round : Bool) (j : Nat) : Gn := ⟨dN (2 + j), if j = 0 ∧ round = true then dN (1 + n) else dN (1 + j)⟩
def chain (n : Nat) (round : Bool) (i : Nat) : List Gn := (List.range i).map (linkN n round)
theorem chain_succ (n : Nat) (round : Bool) (i : Nat) : chain n round (i + 1) = chain n round i ++ [linkN n round i] := by
  unfold chain; rw [List.range_succ, List.map_append]; rfl
theorem chain_len (n : Nat) (round : Bool) (i : Nat) : (chain n round i).length = i := by unfold chain; simp
def oneV : List Vx := [⟨⟨1, 1⟩, [⟨⟨1, 1⟩, 0⟩], ⟨#[]⟩, 0⟩]
theorem at_one : atBy oneV (dN 1) = some ⟨⟨1, 1⟩, [⟨⟨1, 1⟩, 0⟩], ⟨#[]⟩, 0⟩ := rfl
theorem at_other {m : Nat} (h : m ≠ 1) : atBy oneV (dN m) = none := by
  cases hc : atBy oneV (dN m) with
  | none => rfl
  | some w =>
    obtain ⟨h1, h2⟩ := firstBy_mem hc
    have hw : w = ⟨⟨1, 1⟩, [⟨⟨1, 1⟩, 0⟩], ⟨#[]⟩, 0⟩ := by simpa [oneV] using h1
    subst hw
    have h3 : dN m = dN 1 := by simpa [dN] using h2
    exact absurd (dN_inj h3) h
theorem gn_at {n : Nat} {round : Bool} {i j : Nat} (h : j < i) : gnBy (chain n round i) (dN (2 + j)) = some (linkN n round j) := by
  cases hc : gnBy (chain n round i) (dN (2 + j)) with
  | none =>
    have := firstBy_no hc (linkN n round j) (by unfold chain; exact List.mem_map.2 ⟨j, List.mem_range.2 h, rfl⟩)
    simp [linkN] at this
  | some g =>
    obtain ⟨h1, h2⟩ := firstBy_mem hc
    unfold chain at h1
    obtain ⟨k, _, rfl⟩ := List.mem_map.1 h1
    have h3 : dN (2 + k) = dN (2 + j) := of_decide_eq_true h2
    have := dN_inj h3
    have : k = j := by omega
    rw [this]
theorem gn_no {n : Nat} {round : Bool} {i m : Nat} (h : m ≥ 2 + i) : gnBy (chain n round i) (dN m) = none := by
  cases hc : gnBy (chain n round i) (dN m) with
  | none => rfl
  | some g =>
    obtain ⟨h1, h2⟩ := firstBy_mem hc
    unfold chain at h1
    obtain ⟨k, hk, rfl⟩ := List.mem_map.1 h1
    have h3 : dN (2 + k) = dN m := of_decide_eq_true h2
    have := dN_inj h3
    have := List.mem_range.1 hk
    omega
theorem walk_down (n : Nat) : ∀ (j : Nat), j ≤ n → ∀ f, f ≥ j + 1 → resN oneV (chain n false n) f (dN (1 + j)) = dN 1
  | 0, _, f, hf => by
    obtain ⟨f, rfl⟩ : ∃ g, f = g + 1 := ⟨f - 1, by omega⟩
    rw [show dN (1 + 0) = dN 1 from rfl]
    simp only [resN, at_one]
  | j + 1, hj, f, hf => by
    obtain ⟨f, rfl⟩ : ∃ g, f = g + 1 := ⟨f - 1, by omega⟩
    have e : dN (1 + (j + 1)) = dN (2 + j) := by rw [show 1 + (j + 1) = 2 + j by omega]
    rw [e]
    simp only [resN, at_other (show 2 + j ≠ 1 by omega), gn_at (n := n) (round := false) (show j < n by omega)]
    have : (linkN n false j).to = dN (1 + j) := by simp [linkN]
    rw [this]
    exact walk_down n j (by omega) f (by omega)
theorem walk_round {n : Nat} (hn : 1 ≤ n) : ∀ (f j : Nat), j < n → resN oneV (chain n true n) f (dN (2 + j)) = Dart0
  | 0, _, _ => rfl
  | f + 1, j, hj => by
    simp only [resN, at_other (show 2 + j ≠ 1 by omega), gn_at (n := n) (round := true) hj]
    by_cases h : j = 0
    · have : (linkN n true j).to = dN (2 + (n - 1)) := by simp only [linkN, h, and_self, if_true]; congr 1; omega
      rw [this]
      exact walk_round hn f (n - 1) (by omega)
    · have : (linkN n true j).to = dN (2 + (j - 1)) := by simp only [linkN, h, false_and, if_false]; congr 1; omega
      rw [this]
      exact walk_round hn f (j - 1) (by omega)
def wantN (round : Bool) : Dart := if round then Dart0 else dN 1
theorem res_chain {n : Nat} (hn : 1 ≤ n) (round : Bool) {j : Nat} (hj : j < n) : res oneV (chain n round n) (dN (2 + j)) = wantN round := by
  unfold res
  rw [chain_len]
  cases round with
  | false =>
    have := walk_down n (1 + j) (by omega) (n + 1) (by omega)
    rw [show 1 + (1 + j) = 2 + j by omega] at this
    exact this
  | true => exact walk_round hn (n + 1) j hj
theorem res_first (n : Nat) (round : Bool) : res oneV (chain n round n) (dN 1) = dN 1 := res_at at_one
theorem res_behind (n : Nat) (round : Bool) : res oneV (chain n round n) (dN (2 + n)) = Dart0 := res_lost (at_other (by omega)) (gn_no (by omega))
theorem cor_chain (round : Bool) : corD ⟨⟨1, 1⟩, [⟨⟨1, 1⟩, 0⟩], ⟨#[]⟩, 0⟩ (wantN round) = wantN round := by
  cases round <;> rfl
theorem chains_more (at_ : Int) (round : Bool) (n : Nat) (hn : 1 ≤ n) (h64 : n ≤ 64) : E (call F) 0 f4_l1 (⟨(upd (upd (upd (upd (upd (upd Sx.e0 10 (.v (.int .i64 (1)))) 9 (.p 9 0)) 8 (.v (.int .i64 ((n : Int))))) 7 (.v (.bool true))) 2 (.v (.bool round))) 1 (.v (.int .i64 at_))), (upd (upd (upd Sx.h0 10578 (some (.arr false 55 6 (rowsBy Gn.c (chain n round 1))))) 10576 (some (.arr false 43 5 [[.int .i64 1, .int .i64 1, .sl .shared 3 [[.int .i64 1, .int .i64 1, .int .i64 0]], .str { data := #[] }, .int .i64 0]]))) 9 (some (.var false [.s 10576 0 1, .v (.sl (.tight 65) 4 []), .s 10578 0 (chain n round 1).length])))⟩ : St) =
    some (.exit 0, (⟨(upd (upd (upd (upd (upd Sx.e0 9 (.p 9 0)) 8 (.v (.int .i64 ((n : Int))))) 7 (.v (.bool true))) 2 (.v (.bool round))) 1 (.v (.int .i64 at_))), (upd (upd (upd Sx.h0 10578 (some (.arr false 55 6 (rowsBy Gn.c (chain n round n))))) 10576 (some (.arr false 43 5 [[.int .i64 1, .int .i64 1, .sl .shared 3 [[.int .i64 1, .int .i64 1, .int .i64 0]], .str { data := #[] }, .int .i64 0]]))) 9 (some (.var false [.s 10576 0 1, .v (.sl (.tight 65) 4 []), .s 10578 0 (chain n round n).length])))⟩ : St)) := by
  have w1 : IntKind.i64.wrap (1 + (n : Int)) = ((1 + n : Nat) : Int) := by rw [wrap64 (by omega) (by omega)]; omega
  have key := loop_to (C := call F) (lo := 0) (b := f4_b1) (fun i => (⟨(upd (upd (upd (upd (upd (upd Sx.e0 10 (.v (.int .i64 (((i + 1 : Nat) : Int))))) 9 (.p 9 0)) 8 (.v (.int .i64 ((n : Int))))) 7 (.v (.bool true))) 2 (.v (.bool round))) 1 (.v (.int .i64 at_))), (upd (upd (upd Sx.h0 10578 (some (.arr false 55 6 (rowsBy Gn.c (chain n round (i + 1)))))) 10576 (some (.arr false 43 5 [[.int .i64 1, .int .i64 1, .sl .shared 3 [[.int .i64 1, .int .i64 1, .int .i64 0]], .str { data := #[] }, .int .i64 0]]))) 9 (some (.var false [.s 10576 0 1, .v (.sl (.tight 65) 4 []), .s 10578 0 (chain n round (i + 1)).length])))⟩ : St)) (n - 1) (r := (.exit 0, (⟨(upd (upd (upd (upd (upd Sx.e0 9 (.p 9 0)) 8 (.v (.int .i64 ((n : Int))))) 7 (.v (.bool true))) 2 (.v (.bool round))) 1 (.v (.int .i64 at_))), (upd (upd (upd Sx.h0 10578 (some (.arr false 55 6 (rowsBy Gn.c (chain n round n))))) 10576 (some (.arr false 43 5 [[.int .i64 1, .int .i64 1, .sl .shared 3 [[.int .i64 1, .int .i64 1, .int .i64 0]], .str { data := #[] }, .int .i64 0]]))) 9 (some (.var false [.s 10576 0 1, .v (.sl (.tight 65) 4 []), .s 10578 0 (chain n round n).length])))⟩ : St))) ?_ ?_ (by simp)
  · exact key
  · intro i hi
    have hlt : i + 1 < n := by omega
    have w2 : IntKind.i64.wrap (1 + ((i + 1 : Nat) : Int)) = ((1 + (i + 1) : Nat) : Int) := by rw [wrap64 (by omega) (by omega)]; omega
    have w3 : IntKind.i64.wrap (2 + ((i + 1 : Nat) : Int)) = ((2 + (i + 1) : Nat) : Int) := by rw [wrap64 (by omega) (by omega)]; omega
    have k0 : decide (((i + 1 : Nat) : Int) = 0) = false := decide_eq_false (by omega)
    have hl := chain_len n round (i + 1)
    have h5 : ((chain n round (i + 1)).length + 1) * 48 ≤ 140737488355328 := by omega
    have hs := chain_succ n round (i + 1)
    have hlk : linkN n round (i + 1) = ⟨dN (2 + (i + 1)), dN (1 + (i + 1))⟩ := by simp [linkN]
    rw [hlk] at hs
    rw [hs]
    generalize chain n round (i + 1) = m at *
    have e2 : (m ++ [(⟨dN (2 + (i + 1)), dN (1 + (i + 1))⟩ : Gn)]).length = m.length + 1 := by simp
    rw [e2]
    have e3 : rowsBy Gn.c m ++ [[.int .i64 1, .int .i64 ((2 + (i + 1) : Nat) : Int), .int .i64 0, .int .i64 1, .int .i64 ((1 + (i + 1) : Nat) : Int), .int .i64 0]] = rowsBy Gn.c (m ++ [⟨dN (2 + (i + 1)), dN (1 + (i + 1))⟩]) := rowsBy_snoc Gn.c m ⟨dN (2 + (i + 1)), dN (1 + (i + 1))⟩
    simp only [f4_b1, dec_lt hlt, c_dart, w1, w2, w3, k0, h5, e3, wrap_succ hlt (show n ≤ 9223372036854775807 by omega), List.take_length, go_sem, reduceIte, Nat.reduceEqDiff, Nat.reduceAdd, Nat.reduceMul, Nat.reduceLeDiff, Nat.reduceBEq, List.length_cons, List.length_nil, Nat.testBit, Nat.reduceShiftRight, Nat.reduceAnd, Nat.reduceBNe]
  · rw [show n - 1 + 1 = n by omega]
    simp only [f4_b1, dec_ge (Nat.le_refl n), go_sem, reduceIte, Nat.reduceEqDiff]
theorem chains_l1 (at_ : Int) (round : Bool) (n : Nat) (hn : 1 ≤ n) (h64 : n ≤ 64) : E (call F) 0 f4_l1 (⟨(upd (upd (upd (upd (upd (upd Sx.e0 10 (.v (.int .i64 (0)))) 9 (.p 9 0)) 8 (.v (.int .i64 ((n : Int))))) 7 (.v (.bool true))) 2 (.v (.bool round))) 1 (.v (.int .i64 at_))), (upd (upd Sx.h0 10576 (some (.arr false 43 5 [[.int .i64 1, .int .i64 1, .sl .shared 3 [[.int .i64 1, .int .i64 1, .int .i64 0]], .str { data := #[] }, .int .i64 0]]))) 9 (some (.var false [.s 10576 0 1, .v (.sl (.tight 65) 4 []), .v (.sl (.tight 55) 6 [])])))⟩ : St) =
    some (.exit 0, (⟨(upd (upd (upd (upd (upd Sx.e0 9 (.p 9 0)) 8 (.v (.int .i64 ((n : Int))))) 7 (.v (.bool true))) 2 (.v (.bool round))) 1 (.v (.int .i64 at_))), (upd (upd (upd Sx.h0 10578 (some (.arr false 55 6 (rowsBy Gn.c (chain n round n))))) 10576 (some (.arr false 43 5 [[.int .i64 1, .int .i64 1, .sl .shared 3 [[.int .i64 1, .int .i64 1, .int .i64 0]], .str { data := #[] }, .int .i64 0]]))) 9 (some (.var false [.s 10576 0 1, .v (.sl (.tight 65) 4 []), .s 10578 0 (chain n round n).length])))⟩ : St)) := by
  have key := chains_more at_ round n hn h64
  rw [f4_l1_eq]
  have h0 : decide ((0 : Int) < (n : Int)) = true := decide_eq_true (by omega)
  have w1 : IntKind.i64.wrap (1 + (n : Int)) = ((1 + n : Nat) : Int) := by rw [wrap64 (by omega) (by omega)]; omega
  have w2 : IntKind.i64.wrap 1 = 1 := rfl
  have w3 : IntKind.i64.wrap 2 = 2 := rfl
  cases round
  · simp only [f4_b1, h0, w1, w2, w3, c_dart, go_sem, reduceIte, Nat.reduceEqDiff, Nat.reduceAdd, Nat.reduceMul, Nat.reduceLeDiff, Nat.reduceBEq, List.length_cons, List.length_nil, Int.reduceAdd, Nat.testBit, Nat.reduceShiftRight, Nat.reduceAnd, Nat.reduceBNe]
    exact key
  · simp only [f4_b1, h0, w1, w2, w3, c_dart, go_sem, reduceIte, Nat.reduceEqDiff, Nat.reduceAdd, Nat.reduceMul, Nat.reduceLeDiff, Nat.reduceBEq, List.length_cons, List.length_nil, Int.reduceAdd, Nat.testBit, Nat.reduceShiftRight, Nat.reduceAnd, Nat.reduceBNe]
    exact key
set_option maxHeartbeats 4000000 in
theorem t_chains (many at_ : Int) (round : Bool) : call F 4 [.int .i64 many, .int .i64 at_, .bool round] = some (.bool true) := by
  obtain ⟨k1, hk1, a1⟩ := and63 many
  obtain ⟨k2, hk2, a2⟩ := and63 at_
  obtain ⟨n, hn⟩ : ∃ n, n = 1 + k1 := ⟨_, rfl⟩
  have b1 : IntKind.i64.wrap (1 + (k1 : Int)) = (n : Int) := by rw [wrap64 (by omega) (by omega)]; omega
  have h1 : 1 ≤ n := by omega
  have hj : k2 % n < n := Nat.mod_lt _ (by omega)
  have b2 : ((k2 : Int)).tmod (n : Int) = ((k2 % n : Nat) : Int) := tmod_nat
  have b3 : IntKind.i64.wrap (2 + ((k2 % n : Nat) : Int)) = ((2 + k2 % n : Nat) : Int) := by rw [wrap64 (by omega) (by omega)]; omega
  have b4 : IntKind.i64.wrap (2 + (n : Int)) = ((2 + n : Nat) : Int) := by rw [wrap64 (by omega) (by omega)]; omega
  have bz : ¬ ((n : Int) = 0) := by omega
  have l1 := chains_l1 at_ round n h1 (by omega)
  have fv : Fits oneV := by unfold Fits; decide
  have fr : FitsR oneV := by intro v hv; simp [oneV] at hv; subst hv; unfold Fits; decide
  have hg : (chain n round n).length ≤ 999999 := by rw [chain_len]; omega
  have c1 := i_Corner oneV (chain n round n) [] fv fr hg ⟨1, 1⟩ (dN (2 + k2 % n))
  have r1 := i_Resolve oneV (chain n round n) [] fv fr hg (dN (2 + k2 % n))
  have r2 := i_Resolve oneV (chain n round n) [] fv fr hg (dN 1)
  have r3 := i_Resolve oneV (chain n round n) [] fv fr hg (dN (2 + n))
  unfold corR at c1
  rw [show vxBy oneV ⟨1, 1⟩ = some ⟨⟨1, 1⟩, [⟨⟨1, 1⟩, 0⟩], ⟨#[]⟩, 0⟩ from rfl] at c1
  dsimp only at c1
  rw [res_chain h1 round hj] at c1 r1
  rw [cor_chain] at c1
  rw [res_first] at r2
  rw [res_behind] at r3
  generalize chain n round n = m at *
  have hm : m.length * 48 ≤ 140737488355328 := by omega
  have one1 : ((1 : Nat) : Int) = 1 := rfl
  generalize k2 % n = j at *
  cases round
  · simp only [oneV, rowsBy_cons, rowsBy_nil, Vx.c, Dart.c, dartT, corT, wantN, dN, Dart0, ID0, one1, if_false, Bool.false_eq_true] at c1 r1 r2 r3
    rw [call_code F (show F 4 = some (.code f4) from rfl)]
    simp only [f4, c_shown, c_dart, a1, a2, b1, b2, b3, b4, bz, l1, c1, r1, r2, r3, go_sem, reduceIte, reduceCtorEq, Nat.reduceEqDiff, Nat.reduceAdd, Nat.reduceMul, Nat.reduceLeDiff, Nat.reduceBEq, List.length_cons, List.length_nil, Nat.testBit, Nat.reduceShiftRight, Nat.reduceAnd, Nat.reduceBNe]
  · simp only [oneV, rowsBy_cons, rowsBy_nil, Vx.c, Dart.c, dartT, corT, wantN, dN, Dart0, ID0, one1, if_true] at c1 r1 r2 r3
    rw [call_code F (show F 4 = some (.code f4) from rfl)]
    simp only [f4, c_shown, c_dart, a1, a2, b1, b2, b3, b4, bz, l1, c1, r1, r2, r3, go_sem, reduceIte, reduceCtorEq, Nat.reduceEqDiff, Nat.reduceAdd, Nat.reduceMul, Nat.reduceLeDiff, Nat.reduceBEq, List.length_cons, List.length_nil, Nat.testBit, Nat.reduceShiftRight, Nat.reduceAnd, Nat.reduceBNe]
end Go.Proofs.Ytjhbejlpmchhfaa.Sx

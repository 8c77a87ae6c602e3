/- Heaps of a caller, as a function in its memory finds them: what is kept. slices.Clone, at whatever element: from the kit's contract. A receiver's functions that the evaluator takes as known: the numbers that are held, sorted; a copy of a receiver. A receiver in plain words: what is held, what is told. A receiver in plain words: what it keeps. The reference's receiver in plain words: a rising row. Functions of the library that are known by a contract of the kit. The functions of this seat, as the evaluator takes them. A receiver's functions, in their caller's memory. The law's own functions. ReceiverTurns: what the law comes to. -/
import Derived.Shelf.SlicesE.Clone
import Derived.Ground.SlgnProg
import Derived.Test.YtkliiknolnodjaaChecked
import Derived.Shelf.SlMaps.Clone
import Derived.Ground.SlmcProg
import Derived.Shelf.SlIterI.Nil
import Derived.Shelf.SortM.Plain
import Derived.Shelf.SortM.SortNone
import Derived.Ground.GgzProg
import Derived.Ground.SlgmProg
import Derived.WalkKit
import Derived.Deep.RegionHeld3
import Derived.Eval
import Derived.Test.YtkliiknolnodjaaSxG4
import Derived.Test.YtkliiknolnodjaaSxG5
set_option maxRecDepth 100000
set_option linter.unusedSimpArgs false
set_option linter.unusedVariables false
namespace Go.Proofs.Ytkliiknolnodjaa.Sx
open Go
/-- nothing lies from lo on, and nothing names what lies there -/
def LowH (g : Hp) (lo : Nat) : Prop := (∀ i, lo ≤ i → g i = none) ∧ ∀ (i m : Nat) (j : List (Nat × Nat)), lo ≤ m → maskO m j (g i) = g i
theorem LowH.none {g : Hp} {lo : Nat} (h : LowH g lo) (k : Nat) : g (lo + k) = none := h.1 _ (by omega)
theorem LowH.le {g : Hp} {lo m : Nat} (h : LowH g lo) (hm : lo ≤ m) : LowH g m := ⟨fun i hi => h.1 i (by omega), fun i m' j hm' => h.2 i m' j (by omega)⟩
theorem LowH.h0 (lo : Nat) : LowH h0 lo := ⟨fun _ _ => rfl, fun _ _ _ _ => rfl⟩
theorem LowH.upd {g : Hp} {lo : Nat} (h : LowH g lo) {id : Nat} (hid : id < lo) {o : Ob} (ho : ∀ (m : Nat) (j : List (Nat × Nat)), lo ≤ m → maskO m j (some o) = some o) : LowH (upd g id (some o)) lo := by
  refine ⟨fun i hi => ?_, fun i m j hm => ?_⟩
  · unfold Sx.upd; rw [if_neg (by omega)]; exact h.1 i hi
  · unfold Sx.upd
    split
    · exact ho m j hm
    · exact h.2 i m j hm
theorem keepLo_low {g : Hp} {lo : Nat} (h : LowH g lo) (j : List (Nat × Nat)) : keepLo j g lo = g := by
  cases lo with
  | zero =>
    funext i
    show Sx.h0 i = g i
    rw [h.1 i (by omega)]; rfl
  | succ lo =>
    funext k
    show (if k < lo + 1 then maskO (lo + 1) j (g k) else none) = g k
    split
    · exact h.2 k _ j (Nat.le_refl _)
    · rw [h.1 k (by omega)]
theorem keepLo_hi (g : Hp) (lo k : Nat) (j : List (Nat × Nat)) (x : Option Ob) : keepLo j (upd g (lo + k) x) lo = keepLo j g lo := by
  cases lo with
  | zero => rfl
  | succ lo =>
    funext i
    show (if i < lo + 1 then maskO (lo + 1) j (upd g (lo + 1 + k) x i) else none) = if i < lo + 1 then maskO (lo + 1) j (g i) else none
    split
    · unfold upd; rw [if_neg (by omega)]
    · rfl
theorem keepLo_lo {lo id : Nat} (h : id < lo) (g : Hp) (j : List (Nat × Nat)) (x : Option Ob) : keepLo j (upd g id x) lo = upd (keepLo j g lo) id (maskO lo j x) := by
  cases lo with
  | zero => omega
  | succ lo =>
    funext i
    show (if i < lo + 1 then maskO (lo + 1) j (upd g id x i) else none) = upd (fun i => if i < lo + 1 then maskO (lo + 1) j (g i) else none) id (maskO (lo + 1) j x) i
    unfold upd
    by_cases e : i = id
    · subst e; simp [h]
    · simp [e]
theorem upd_two {α : Type} (g : Nat → α) (k : Nat) (a b : α) : upd (upd g k a) k b = upd g k b := by
  funext j; unfold upd; split <;> rfl
theorem upd_swap {α : Type} (g : Nat → α) {i k : Nat} (h : ¬ i = k) (a b : α) : upd (upd g i a) k b = upd (upd g k b) i a := by
  funext j; unfold upd
  by_cases e : j = k
  · subst e; rw [if_pos rfl, if_neg (fun e => h e.symm), if_pos rfl]
  · rw [if_neg e, if_neg e]
theorem upd_id {α : Type} {g : Nat → α} {k : Nat} {a : α} (h : g k = a) : upd g k a = g := by
  funext j; unfold upd; split
  · rename_i e; rw [e, h]
  · rfl
theorem lk_lt {lo i : Nat} (h : i < lo) (j : List (Nat × Nat)) : lk lo i j = some i := by
  induction j with
  | nil => simp [lk, h]
  | cons x j ih => obtain ⟨a, b⟩ := x; simp only [lk, if_neg (show ¬ lo + a = i by omega), ih]
theorem mask_ints {m : Nat} (j : List (Nat × Nat)) (f : Bool) (a b : Int) {mid : Nat} (h : mid < m) : maskO m j (some (.var f [.v (.int .i64 a), .v (.int .i64 b), .m mid])) = some (.var f [.v (.int .i64 a), .v (.int .i64 b), .m mid]) := by
  simp only [maskO, maskCs, maskC, lk_lt h, renM]
theorem tightR_small {lo : Nat} (h : lo < 1000000000000) (xs : List X) (r : Option (List (List TV) × List Nat)) : tightR lo xs r = r := if_pos h
theorem appN_small {lo : Nat} (h : lo < 1000000000000) (st : St) (d : Nat) (e : TypeId) (sz : Nat) (new : List (List TV)) : appN lo st d e sz new = mkO d (lo + d) (.arr false e sz new) (.s (lo + d) 0 new.length) st := if_pos h
theorem fpQ_small {lo : Nat} (h : lo < 1000000000000) (g : Hp) (x l : LV) : fpQ lo g x l = fpW (solidCells g x.cells) l := if_pos h
theorem ne_add {id lo : Nat} (h : id < lo) (k : Nat) : (id = lo + k) = False := by simp; omega
theorem add_ne {id lo : Nat} (h : id < lo) (k : Nat) : (lo + k = id) = False := by simp; omega
theorem beq_add {id lo : Nat} (h : id < lo) (k : Nat) : (id == lo + k) = false := by simp; omega
theorem add_beq {id lo : Nat} (h : id < lo) (k : Nat) : (lo + k == id) = false := by simp; omega
@[go_sem] theorem add_lt_self (lo k : Nat) : (lo + k < lo) = False := by simp
attribute [go_sem] Nat.add_eq_left Nat.left_eq_add
end Go.Proofs.Ytkliiknolnodjaa.Sx
namespace Go.Proofs.Ytkliiknolnodjaa.Sx
open Go Go.Shelf Go.RowKit Go.Lib

def cloneG (e : TypeId) (sz bytes : Nat) : List TV → Option TV
  | [.sl _ sz' rows] => if sz' = sz ∧ rows.length * bytes ≤ 140737488355328 then some (.sl (.own e) sz rows) else none
  | _ => none

section
variable {P : Program} {ρ : Go.Shelf.Ren}
set_option maxHeartbeats 2000000 in
set_option maxRecDepth 100000 in
/-- of none, but not nil -/
theorem clone_zero (L : SlLaysE0.n41 P ρ) (i0 : TypeInfo) (z : Value) (size bytes : Nat) (hi : P.info? (ρ.t 23) = some i0) (hz0 : i0.zero = some z) (hz1 : i0.size = size) (hz2 : i0.bytes = bytes) (hzs : z.cells.size = size) (hsz : 0 < size)
    (z23 : ∀ w, (Go.sizeOf (ρ.t 23)).run P w = .ok size w) (ad : Addr) (c : Nat) (w : World) :
    Calls P (ρ.f 41) #[.slice (some ad) 0 c] w fun e w' => ∃ v', e = .returned v' ∧ w'.ownsRow w.heap.size (ρ.t 23) size v' 0 [] ∧ Below w.heap.size w w' := by
  have mixed := L.mixed; have t4 := L.t4; have a4 := L.a4; have z4 := L.z4; have v4 := L.v4; have t22 := L.t22; have a22 := L.a22; have z22 := L.z22; have v22 := L.v22
  have q22 : ∀ (w : World) (a : Option Addr) (n c n' c' : Nat), (binOp .eql (ρ.t 22) (.slice a n c) (.slice none n' c')).run P w = .ok (.bool a.isNone) w := fun w a n c n' c' => Lib.run_eql_slice_nil w _ _ a n c n' c' L.t22
  have u22 : ∀ w, Sem.run P (underlying (ρ.t 22)) w = .ok (TypeDesc.slice (ρ.t 23)) w := run_underlying t22
  obtain ⟨_, _, FG⟩ := L.f41
  go_enter FG, SlBodyN.n41_ntmps ρ
  go_wp2_with (at_builtin; refine wpList_append_own _ rfl _ _ (ρ.t 22) rfl w.heap.size (ρ.t 23) i0 z size bytes t22 hi hz0 hz1 hz2 hzs hsz _ _ _ rfl (World.ownsRow_made w #[] 0 (Nat.le_refl _) (Nat.zero_le _) (by simp)) ad 0 c [] rfl ?qc1 ?qc2 ?qc3 ?qc4 ?qc5 ?qc6 ?_)
  case qc1 => simp
  case qc2 => intro j u hj; simp at hj
  case qc3 => intro u hu; simp at hu
  case qc4 => exact Nat.zero_le _
  case qc5 => simp
  case qc6 => simp
  intro v' w1 hown hgrow hnil
  go_wp2
  go_ret
  refine ⟨v', rfl, by simpa using hown, ?_⟩
  exact ((Below.refl _ w).alloc (Nat.le_refl _) _).grown hgrow (by simp) (by intro k hk; simp [Value.ownBlock] at hk; omega)

theorem below_same {n : Nat} {w w' : World} {ok : Nat → Prop} (h : Below n w w') (hok : ∀ b, ok b → b < n) : Same w w' ok ok := fun b hb => ⟨h.block b (hok b hb), hb⟩

theorem own_res {w w' : World} {ok : Nat → Prop} (hok : ∀ b, ok b → b < w.heap.size) (hb : Below w.heap.size w w') {e : TypeId} {sz : Nat} {rows : List (List TV)} {news : List Value} {v : Value} (hr : RowsAre w ok sz rows news)
    (ho : w'.ownsRow w.heap.size e sz v rows.length news) : RRep w.heap.size w' ok (.sl (.own e) sz rows) v := by
  obtain ⟨hl, ⟨rfl, h0⟩ | ⟨g, cap, cur, rfl, hg, hh, h1, h2, h3, h4⟩⟩ := ho
  · refine ⟨ok, [none], fun b hb' => ⟨fun _ => hb', Nat.lt_of_lt_of_le (hok b hb') hb.size⟩, ⟨by simp, by simp⟩, ?_⟩
    have hn : rows = [] := List.eq_nil_of_length_eq_zero h0
    subst hn
    exact ⟨none, none, 0, rfl, rfl, Nat.zero_le _, .inl ⟨rfl, rfl, rfl⟩⟩
  · have hlt : g < w'.heap.size := by
      rcases Nat.lt_or_ge g w'.heap.size with h | h
      · exact h
      · rw [Array.getElem?_eq_none h] at hh; cases hh
    refine ⟨ok, [some (g, cap)], fun b hb' => ⟨fun _ => hb', Nat.lt_of_lt_of_le (hok b hb') hb.size⟩, ⟨fun b K hm => ?_, by simp⟩, ?_⟩
    · simp at hm; obtain ⟨rfl, rfl⟩ := hm
      exact ⟨hg, hlt, fun hb' => absurd (hok _ hb') (by omega)⟩
    · refine ⟨some (g, cap), some ⟨g, 0, none⟩, cap, rfl, rfl, h2, .inr ⟨g, cur, rfl, rfl, hh, h3, h1, ?_⟩⟩
      refine (hr.to (below_same hb hok)).rep hh fun j u hj => ?_
      rw [← h4] at hj
      rw [List.getElem?_take] at hj
      split at hj
      · simpa using hj
      · cases hj

theorem clone_ok (L : SlLaysE0.n41 P ρ) (i0 : TypeInfo) (z : Value) (size bytes : Nat) (hi : P.info? (ρ.t 23) = some i0) (hz0 : i0.zero = some z) (hz1 : i0.size = size) (hz2 : i0.bytes = bytes) (hzs : z.cells.size = size) (hsz : 0 < size)
    (z23 : ∀ w, (Go.sizeOf (ρ.t 23)).run P w = .ok size w) (args : List TV) (r : TV) (h : cloneG (ρ.t 23) size bytes args = some r) : Sound P (ρ.f 41) args r := by
  unfold cloneG at h
  split at h
  · split at h
    · rename_i fl sz' rows hc
      obtain ⟨rfl, hbytes⟩ := hc
      obtain rfl := Option.some.inj h
      refine ⟨?_, fun w ok vs hok hv => ?_⟩
      · obtain ⟨nm, hn, hf⟩ := L.f41
        exact ⟨_, hf, hn, rfl⟩
      · obtain ⟨v, r, rfl, _, ht, rfl⟩ := hv
        obtain ⟨a, len, cap, rfl, rfl, hcap, hmax, _, hr⟩ := ht
        cases a with
        | none =>
          have hn : rows = [] := by
            rcases hr with h | ⟨b, o, e, _⟩
            · exact h
            · cases e
          subst hn
          refine (AnyE.slices_Clone_nil L _ _ w).mono fun e w' ⟨he, hw⟩ => ?_
          subst hw
          exact ⟨_, he, Below.refl _ _, own_res hok (Below.refl _ _) RowsAre.nil ⟨by simp, .inl ⟨rfl, rfl⟩⟩⟩
        | some ad =>
          rcases hr with rfl | ⟨b, o, e, hb, hr⟩
          · refine (clone_zero L i0 z sz' bytes hi hz0 hz1 hz2 hzs hsz z23 ad cap w).mono fun e w' ⟨v', he, ho, hw⟩ => ?_
            exact ⟨v', he, hw, own_res hok hw RowsAre.nil ho⟩
          · obtain rfl := Option.some.inj e
            obtain ⟨news, hn, hcells⟩ := hr.are
            refine (AnyE.slices_Clone L i0 z sz' bytes hi hz0 hz1 hz2 hzs hsz z23 b o rows.length cap news w hn.1 (Nat.le_trans hcap hmax) hbytes hcells ?_).mono fun e w' ⟨v', he, ho, _, hw⟩ => ?_
            · exact hn.2.1
            · exact ⟨v', he, hw, own_res hok hw hn ho⟩
    · cases h
  · cases h
end
end Go.Proofs.Ytkliiknolnodjaa.Sx
namespace Go.Proofs.Ytkliiknolnodjaa
open Go Go.RowKit Go.Maps Go.Sort Go.Shelf
def Try.mclone_ren : Go.Shelf.Ren := ⟨fun | 5 => 23 | 7 => 27 | n => n, fun | 23 => 49 | 25 => 3 | 3 => 30 | 4 => 4 | 20 => 20 | n => n, fun | n => n⟩
theorem Try.mclone : Go.Proofs.SlLaysW.n5 Try.prog Try.mclone_ren where
  mixed := (by kernel_rfl)
  f5 := ⟨Try.f23.name, by decide, Try.func23.trans (congrArg some (by kernel_rfl))⟩
  f7 := Try.func27.trans (congrArg some (by kernel_rfl))
  t4 := Try.underlying4
  a4 := Try.isAgg4
  z4 := Try.sizeOf4
  v4 := Try.zeroValue4
  t20 := Try.underlying20
  a20 := Try.isAgg20
  z20 := Try.sizeOf20
  v20 := Try.zeroValue20
  t23 := Try.underlying49
  a23 := Try.isAgg49
  z23 := Try.sizeOf49
  v23 := Try.zeroValue49
def Try.keysA_ren : Go.Shelf.Ren := ⟨fun | 7 => 22 | 10 => 26 | n => n, fun | 23 => 49 | 26 => 3 | 3 => 30 | 28 => 55 | 0 => 0 | 27 => 54 | 33 => 60 | 4 => 4 | n => n, fun | n => n⟩
theorem Try.keysA : Go.Proofs.SlLaysZI.n7 Try.prog Try.keysA_ren where
  mixed := (by kernel_rfl)
  f7 := ⟨Try.f22.name, by decide, Try.func22.trans (congrArg some (by kernel_rfl))⟩
  f10 := ⟨Try.f26.name, by decide, Try.func26.trans (congrArg some (by kernel_rfl))⟩
  t0 := Try.underlying0
  a0 := Try.isAgg0
  z0 := Try.sizeOf0
  v0 := Try.zeroValue0
  t4 := Try.underlying4
  a4 := Try.isAgg4
  z4 := Try.sizeOf4
  v4 := Try.zeroValue4
  t23 := Try.underlying49
  a23 := Try.isAgg49
  z23 := Try.sizeOf49
  v23 := Try.zeroValue49
  t26 := Try.underlying3
  a26 := Try.isAgg3
  z26 := Try.sizeOf3
  v26 := Try.zeroValue3
  t27 := Try.underlying54
  a27 := Try.isAgg54
  z27 := Try.sizeOf54
  v27 := Try.zeroValue54
  t28 := Try.underlying55
  a28 := Try.isAgg55
  z28 := Try.sizeOf55
  v28 := Try.zeroValue55
  t33 := Try.underlying60
  a33 := Try.isAgg60
  z33 := Try.sizeOf60
  v33 := Try.zeroValue60
def Try.sortedA_ren : Go.Shelf.Ren := ⟨fun | 6 => 21 | 8 => 24 | 9 => 25 | 11 => 28 | 13 => 30 | 12 => 29 | 23 => 40 | 24 => 41 | 14 => 31 | 15 => 32 | 16 => 33 | 17 => 34 | 18 => 35 | 19 => 36 | 20 => 37 | 21 => 38 | 22 => 39 | 25 => 42 | 26 => 43 | 27 => 44 | 28 => 45 | 29 => 46 | 30 => 47 | 31 => 48 | n => n, fun | 26 => 3 | 28 => 55 | 24 => 22 | 0 => 0 | 3 => 3 | 37 => 65 | 48 => 76 | 50 => 78 | 4 => 4 | 40 => 68 | 39 => 67 | 45 => 73 | 5 => 5 | 9 => 9 | 51 => 79 | 55 => 83 | 57 => 85 | 58 => 86 | 33 => 60 | n => n, fun | n => n⟩
theorem Try.sortedA : Go.Proofs.SlLaysZI.n6 Try.prog Try.sortedA_ren where
  mixed := (by kernel_rfl)
  f6 := ⟨Try.f21.name, by decide, Try.func21.trans (congrArg some (by kernel_rfl))⟩
  f8 := ⟨Try.f24.name, by decide, Try.func24.trans (congrArg some (by kernel_rfl))⟩
  f11 := ⟨Try.f28.name, by decide, Try.func28.trans (congrArg some (by kernel_rfl))⟩
  t0 := Try.underlying0
  a0 := Try.isAgg0
  z0 := Try.sizeOf0
  v0 := Try.zeroValue0
  t24 := Try.underlying22
  a24 := Try.isAgg22
  z24 := Try.sizeOf22
  v24 := Try.zeroValue22
  t26 := Try.underlying3
  a26 := Try.isAgg3
  z26 := Try.sizeOf3
  v26 := Try.zeroValue3
  t28 := Try.underlying55
  a28 := Try.isAgg55
  z28 := Try.sizeOf55
  v28 := Try.zeroValue55
  i26 := (by kernel_rfl)
def Try.sortA_ren : Go.Shelf.Ren := ⟨fun | 5 => 25 | 8 => 30 | 7 => 29 | 19 => 40 | 20 => 41 | 10 => 31 | 11 => 32 | 12 => 33 | 13 => 34 | 14 => 35 | 15 => 36 | 16 => 37 | 17 => 38 | 18 => 39 | 30 => 42 | 31 => 43 | 32 => 44 | 33 => 45 | 34 => 46 | 35 => 47 | 40 => 48 | n => n, fun | 23 => 22 | 25 => 3 | 3 => 3 | 32 => 65 | 22 => 22 | 0 => 0 | 44 => 76 | 46 => 78 | 4 => 4 | 36 => 68 | 35 => 67 | 41 => 73 | 5 => 5 | 9 => 9 | 53 => 79 | 57 => 83 | 63 => 85 | 64 => 86 | n => n, fun | n => n⟩
theorem Try.sortA : Go.Proofs.SlLaysM.n5 Try.prog Try.sortA_ren where
  mixed := (by kernel_rfl)
  f5 := ⟨Try.f25.name, by decide, Try.func25.trans (congrArg some (by kernel_rfl))⟩
  f7 := ⟨Try.f29.name, by decide, Try.func29.trans (congrArg some (by kernel_rfl))⟩
  f8 := Try.func30.trans (congrArg some (by kernel_rfl))
  f10 := ⟨Try.f31.name, by decide, Try.func31.trans (congrArg some (by kernel_rfl))⟩
  f11 := ⟨Try.f32.name, by decide, Try.func32.trans (congrArg some (by kernel_rfl))⟩
  f12 := ⟨Try.f33.name, by decide, Try.func33.trans (congrArg some (by kernel_rfl))⟩
  f13 := ⟨Try.f34.name, by decide, Try.func34.trans (congrArg some (by kernel_rfl))⟩
  f14 := ⟨Try.f35.name, by decide, Try.func35.trans (congrArg some (by kernel_rfl))⟩
  f15 := ⟨Try.f36.name, by decide, Try.func36.trans (congrArg some (by kernel_rfl))⟩
  f16 := ⟨Try.f37.name, by decide, Try.func37.trans (congrArg some (by kernel_rfl))⟩
  f17 := ⟨Try.f38.name, by decide, Try.func38.trans (congrArg some (by kernel_rfl))⟩
  f18 := ⟨Try.f39.name, by decide, Try.func39.trans (congrArg some (by kernel_rfl))⟩
  f19 := Try.func40.trans (congrArg some (by kernel_rfl))
  f20 := Try.func41.trans (congrArg some (by kernel_rfl))
  f30 := ⟨Try.f42.name, by decide, Try.func42.trans (congrArg some (by kernel_rfl))⟩
  f31 := Try.func43.trans (congrArg some (by kernel_rfl))
  f32 := Try.func44.trans (congrArg some (by kernel_rfl))
  f33 := ⟨Try.f45.name, by decide, Try.func45.trans (congrArg some (by kernel_rfl))⟩
  f34 := ⟨Try.f46.name, by decide, Try.func46.trans (congrArg some (by kernel_rfl))⟩
  f35 := ⟨Try.f47.name, by decide, Try.func47.trans (congrArg some (by kernel_rfl))⟩
  f40 := ⟨Try.f48.name, by decide, Try.func48.trans (congrArg some (by kernel_rfl))⟩
  t0 := Try.underlying0
  a0 := Try.isAgg0
  z0 := Try.sizeOf0
  v0 := Try.zeroValue0
  t3 := Try.underlying3
  a3 := Try.isAgg3
  z3 := Try.sizeOf3
  v3 := Try.zeroValue3
  t4 := Try.underlying4
  a4 := Try.isAgg4
  z4 := Try.sizeOf4
  v4 := Try.zeroValue4
  t5 := Try.underlying5
  a5 := Try.isAgg5
  z5 := Try.sizeOf5
  v5 := Try.zeroValue5
  t9 := Try.underlying9
  a9 := Try.isAgg9
  z9 := Try.sizeOf9
  v9 := Try.zeroValue9
  t22 := Try.underlying22
  a22 := Try.isAgg22
  z22 := Try.sizeOf22
  v22 := Try.zeroValue22
  t23 := Try.underlying22
  a23 := Try.isAgg22
  z23 := Try.sizeOf22
  v23 := Try.zeroValue22
  t25 := Try.underlying3
  a25 := Try.isAgg3
  z25 := Try.sizeOf3
  v25 := Try.zeroValue3
  t32 := Try.underlying65
  a32 := Try.isAgg65
  z32 := Try.sizeOf65
  v32 := Try.zeroValue65
  t35 := Try.underlying67
  a35 := Try.isAgg67
  z35 := Try.sizeOf67
  v35 := Try.zeroValue67
  t36 := Try.underlying68
  a36 := Try.isAgg68
  z36 := Try.sizeOf68
  v36 := Try.zeroValue68
  t41 := Try.underlying73
  a41 := Try.isAgg73
  z41 := Try.sizeOf73
  v41 := Try.zeroValue73
  t44 := Try.underlying76
  a44 := Try.isAgg76
  z44 := Try.sizeOf76
  v44 := Try.zeroValue76
  t46 := Try.underlying78
  a46 := Try.isAgg78
  z46 := Try.sizeOf78
  v46 := Try.zeroValue78
  t53 := Try.underlying79
  a53 := Try.isAgg79
  z53 := Try.sizeOf79
  v53 := Try.zeroValue79
  t57 := Try.underlying83
  a57 := Try.isAgg83
  z57 := Try.sizeOf83
  v57 := Try.zeroValue83
  t63 := Try.underlying85
  a63 := Try.isAgg85
  z63 := Try.sizeOf85
  v63 := Try.zeroValue85
  t64 := Try.underlying86
  a64 := Try.isAgg86
  z64 := Try.sizeOf86
  v64 := Try.zeroValue86
set_option maxRecDepth 1000000
theorem mcloneC (mb : Nat) (es : Array MapEntry) (clock : Nat) (W : World) (h : W.heap[mb]? = some (.map es clock)) : Calls Try.prog 23 #[.map (some mb)] W fun e w' => e = .returned (.map (some W.heap.size)) ∧ w' = W.alloc (.map es clock) := AnyW.maps_Clone Try.mclone mb es clock W h
theorem cell_alloc {W : World} {a : Addr} {v : Value} (o : Obj) (h : W.cell? a = some v) : (W.alloc o).cell? a = some v := by
  have hlt : a.block < W.heap.size := by
    rcases Nat.lt_or_ge a.block W.heap.size with h' | h'
    · exact h'
    · simp [World.cell?, Array.getElem?_eq_none h'] at h
  rw [← h]
  simp only [World.cell?, World.alloc, Array.getElem?_push, Nat.ne_of_lt hlt, if_false]
set_option maxHeartbeats 2000000 in
theorem recvClone_walk (b : Nat) (n0 n1 : Int) (mb : Nat) (es : Array MapEntry) (clock : Nat) (w : World)
    (h0 : w.cell? ⟨b, 0, none⟩ = some (.int .i64 n0)) (h1 : w.cell? ⟨b, 1, none⟩ = some (.int .i64 n1)) (h2 : w.cell? ⟨b, 2, none⟩ = some (.map (some mb))) (hm : w.heap[mb]? = some (.map es clock)) :
    Calls Try.prog 16 #[.pointer (some ⟨b, 0, none⟩)] w fun e w' => e = .returned (.pointer (some ⟨w.heap.size + 1, 0, none⟩)) ∧ w' = ((w.alloc (.map es clock)).alloc (.cells #[.int .i64 n0, .int .i64 n1, .map (some w.heap.size)] 51)).drew := by
  go_enter Try.func16, Try.ntmps16
  go_wp2
  have hB0 : Below w.heap.size w w.drew := ⟨rfl, rfl, rfl, Nat.le_refl _, fun _ _ => rfl⟩
  have hB1 : Below w.heap.size w (w.alloc (.map es clock)).drew := ((Below.refl _ w).alloc (Nat.le_refl _) _).trans ⟨rfl, rfl, rfl, Nat.le_refl _, fun _ _ => rfl⟩
  have hB2 : ∀ o, Below w.heap.size w ((w.alloc (.map es clock)).alloc o).drew := fun o => (((Below.refl _ w).alloc (Nat.le_refl _) _).alloc (by simp) o).trans ⟨rfl, rfl, rfl, Nat.le_refl _, fun _ _ => rfl⟩
  have k0 : w.drew.cell? ⟨b, 0, none⟩ = some (.int .i64 n0) := h0
  have k1 : w.drew.cell? ⟨b, 1, none⟩ = some (.int .i64 n1) := h1
  have k2 : w.drew.cell? ⟨b, 2, none⟩ = some (.map (some mb)) := h2
  have hmS : mb < w.heap.size := (Array.getElem?_eq_some_iff.1 hm).1
  go_region_held3 (fun w' => w'.cell? ⟨b, 0, none⟩ = some (.int .i64 n0) ∧ w'.cell? ⟨b, 1, none⟩ = some (.int .i64 n1) ∧ w'.cell? ⟨b, 2, none⟩ = some (.map (some mb)) ∧ Below w.heap.size w w')
    (first | assumption | exact hB2 _ | (apply cell_alloc; assumption) | (exact cell_alloc _ (by assumption)) | go_keep)
    (first | (go_at_call 23; refine (mcloneC mb es clock _ ?_).mono ?_; (first | exact hm | exact (Below.block (by assumption) hmS).trans hm); rintro e w' ⟨rfl, rfl⟩))
  go_wp2
  go_ret
  exact ⟨rfl, rfl⟩
theorem Try.sortsA (m : Nat) : AnyZI.SortsIn Try.prog Try.sortedA_ren Fence.wide m :=
  ⟨fun blk off cap ss W hH hblk hsz => callsIn_wide.2 (AnyM.slices_Sort_int Try.sortA blk off cap ss W hH hblk hsz),
   fun p cap W => callsIn_wide.2 (AnyM.slices_Sort_int_none Try.sortA p cap W)⟩
set_option maxHeartbeats 1000000 in
theorem held_walk {H : Type} (p b nn : Nat) (D0 : DataW H) (R : Value → Option (DataW H × List MemPlace)) (w : World) (h2 : w.cell? ⟨p, 2, none⟩ = some (.map (some b))) (hown : w.ownsMap Try.prog 3 R b nn D0) (hmax : Maps.size D0 ≤ maxLen) (hbytes : Maps.size D0 * 8 ≤ 140737488355328) :
    Calls Try.prog 11 #[.pointer (some ⟨p, 0, none⟩)] w fun e w' => ∃ (v : Value) (ss : List Int), e = .returned v ∧ ss.Perm (intKeys D0) ∧
      w'.ownsRow w.heap.size 3 1 v ss.length ((ss.mergeSort (fun x y => decide (x ≤ y))).map encZ) ∧ (v = .slice none 0 0 ↔ ss = []) ∧ Below w.heap.size w w' := by
  refine (callsIn_wide (n := 6)).1 ?_
  have hbl := hown.lt
  have hseq : SeqGives Fence.wide 2 Try.prog 26 #[.pointer (some ⟨w.heap.size, 0, none⟩)] encZ (fun ss => ss.Perm (intKeys D0)) (Maps.size D0) (w.alloc (.cells #[.map (some b)] 49)) :=
    AnyZI.keys_gives (ρ := Try.keysA_ren) { Try.keysA with } Fence.wide _ trivial rfl (by omega) w.heap.size b nn D0 _ (by simp) (by simp) (by
      obtain ⟨es, clock, hb, Ft, hs, hD⟩ := hown
      exact ⟨es, clock, (Below.heap_alloc _ _ b hbl).trans hb, Ft, hs, hD⟩)
  have cK : ∀ mb W, CallsIn Fence.wide 5 Try.prog 22 #[.map mb] W fun e w' => e = .returned (.func (.func 26) #[] #[.pointer (some ⟨W.heap.size, 0, none⟩)]) ∧ w' = W.alloc (.cells #[.map mb] 49) := fun mb W => AnyZI.keys_in Try.keysA Fence.wide 5 trivial rfl mb W
  have cS := AnyZI.sorted_in Try.sortedA Fence.wide 5 trivial trivial trivial trivial rfl (by omega) (Try.sortsA _) (enters_of Try.func25 (by kernel_rfl) rfl) 26 #[.pointer (some ⟨w.heap.size, 0, none⟩)] trivial (enters_of Try.func26 (by kernel_rfl) rfl) _ _ hmax hbytes _ hseq
  change CallsIn _ _ Try.prog 21 _ _ _ at cS
  have hfK : Fence.wide.fn 22 := trivial
  have hfS : Fence.wide.fn 21 := trivial
  refine callsIn_of_wp Try.func11 rfl trivial ?_ rfl
  simp only [Try.ntmps11, List.size_toArray, List.length_cons, List.length_nil, Nat.reduceAdd, Nat.reduceSub, Array.replicate_succ, Array.replicate_zero, List.push_toArray, List.append_toArray, List.nil_append, List.cons_append]
  gi_wp2_with (first
    | (gi_at_call 22; refine (cK _ _).mono ?_; rintro e w' ⟨rfl, rfl⟩)
    | (gi_at_call 21; refine cS.mono ?_; rintro e w' ⟨v, ss, rfl, hS, hrow, hnil, hb⟩))
  go_ret
  exact ⟨v, ss, rfl, hS, ownsRow_base_a hrow (by simp), hnil, ((Below.refl _ w).alloc (Nat.le_refl _) _).trans (hb.mono (by simp))⟩
namespace Sx
/-- the numbers of a map's keys -/
def keysI : List (List TV × List TV) → Option (List Int)
  | [] => some []
  | ([.int .i64 n], _) :: r => (keysI r).map (n :: ·)
  | _ => none
def sortI (l : List Int) : List Int := l.mergeSort fun x y => decide (x ≤ y)
def KeysOk (ks : List Int) : Prop := ks.length ≤ 17592186044416 ∧ ks.Nodup ∧ ∀ n ∈ ks, -9223372036854775808 ≤ n ∧ n ≤ 9223372036854775807
open Classical in
noncomputable def heldK (lo : Nat) (h : Hp) : Option (List Int) → Option Ob → Option (LV × Hp)
  | some ks, none => if KeysOk ks then some (.s (lo + 1) 0 ks.length, upd h (lo + 1) (some (.arr false 3 1 ((sortI ks).map fun n => [.int .i64 n])))) else none
  | _, _ => none
noncomputable def heldM (lo : Nat) (h : Hp) : Option Ob → Option (LV × Hp)
  | some (.map _ false _ es) => heldK lo h (keysI es) (h (lo + 1))
  | _ => none
noncomputable def heldV (lo : Nat) (h : Hp) : Option Ob → Option (LV × Hp)
  | some (.var _ [_, _, .m mid]) => heldM lo h (h mid)
  | _ => none
/-- the numbers that are held, sorted -/
noncomputable def heldG (lo : Nat) (h : Hp) : List LV → Option (LV × Hp)
  | [.p id 0] => heldV lo h (h id)
  | _ => none
def rclK (lo : Nat) (h : Hp) (a b : Int) (kag vag : Bool) (es : List (List TV × List TV)) : Option Ob → Option Ob → Option (LV × Hp)
  | none, none => some (.p (lo + 2) 0, upd (upd h (lo + 1) (some (.map false kag vag es))) (lo + 2) (some (.var false [.v (.int .i64 a), .v (.int .i64 b), .m (lo + 1)])))
  | _, _ => none
def rclM (lo : Nat) (h : Hp) (a b : Int) : Option Ob → Option (LV × Hp)
  | some (.map _ kag vag es) => rclK lo h a b kag vag es (h (lo + 1)) (h (lo + 2))
  | _ => none
def rclV (lo : Nat) (h : Hp) : Option Ob → Option (LV × Hp)
  | some (.var _ [.v (.int .i64 a), .v (.int .i64 b), .m mid]) => rclM lo h a b (h mid)
  | _ => none
/-- a copy of a receiver -/
def rclG (lo : Nat) (h : Hp) : List LV → Option (LV × Hp)
  | [.p id 0] => rclV lo h (h id)
  | _ => none

theorem keysI_ents {w : World} {ok : Nat → Prop} {vag : Bool} : ∀ {es : List (List TV × List TV)} {ks : List Int} {ms : List MapEntry}, keysI es = some ks → EntsRep w ok false vag es ms → ms.map (·.key) = ks.map encZ
  | [], ks, ms, h, hr => by
    obtain rfl := Option.some.inj h
    have hr : ms = [] := hr
    rw [hr]; rfl
  | (k, v) :: r, ks, ms, h, hr => by
    unfold keysI at h
    split at h
    · rename_i he; cases he
    · rename_i n x r' he
      obtain ⟨he1, rfl⟩ := List.cons.inj he
      obtain ⟨rfl, rfl⟩ := Prod.mk.inj he1
      simp only [Option.map_eq_some_iff] at h
      obtain ⟨ks', h1, rfl⟩ := h
      obtain ⟨e, r'', rfl, h2, h3, h4⟩ := hr
      simp only [PackRep, Bool.false_eq_true, if_false] at h2
      obtain ⟨t, ht, _, h5⟩ := h2
      obtain rfl : TV.int .i64 n = t := (List.cons.inj ht).1
      simp only [TRep] at h5
      simp only [List.map_cons]
      rw [keysI_ents h1 h4, h5]
    · cases h
theorem keyOf_int (n : Int) (h1 : -9223372036854775808 ≤ n) (h2 : n ≤ 9223372036854775807) : keyOf Try.prog 3 (encZ n) = some (.int .i64 n) := by
  simp only [keyOf, Try.underlying3, mapKey]
  rw [if_pos]
  refine ⟨trivial, ?_⟩
  simp only [Lit.wf, IntKind.min, IntKind.max, IntKind.bits, IntKind.signed]
  simp
  omega
theorem entries_int {ms : List MapEntry} {ks : List Int} (hk : ms.map (·.key) = ks.map encZ) (hb : ∀ n ∈ ks, -9223372036854775808 ≤ n ∧ n ≤ 9223372036854775807) :
    (∀ x ∈ ms, ∃ y, WideElems.rd Try.prog 3 (fun _ => some ((DataW.nil : DataW Unit), [])) x = some y) ∧ ((ms.map (WideElems.rg Try.prog 3 fun _ => some ((DataW.nil : DataW Unit), []))).map fun p => Go.intOf p.1) = ks := by
  induction ms generalizing ks with
  | nil =>
    cases ks with
    | nil => exact ⟨by simp, rfl⟩
    | cons _ _ => cases hk
  | cons m ms ih =>
    cases ks with
    | nil => cases hk
    | cons k ks =>
      simp only [List.map_cons, List.cons.injEq] at hk
      obtain ⟨h1, h2⟩ := hk
      have hb1 := hb k (by simp)
      obtain ⟨i1, i2⟩ := ih h2 fun n hn => hb n (by simp [hn])
      have hr : WideElems.rd Try.prog 3 (fun _ => some ((DataW.nil : DataW Unit), [])) m = some (.int .i64 k, .nil) := by
        simp only [WideElems.rd, h1, keyOf_int k hb1.1 hb1.2, Option.bind_some, Option.map_some]
      refine ⟨fun x hx => ?_, ?_⟩
      · rcases List.mem_cons.1 hx with rfl | hx
        · exact ⟨_, hr⟩
        · exact i1 x hx
      · have e := WideElems.rg_of hr
        simp only [List.map_cons, e]
        rw [i2]
        rfl
theorem foldr_perm {H : Type} : ∀ l : List (Lit × DataW H), (l.foldr DataW.insert []).Perm l
  | [] => .nil
  | x :: l => (Go.WideShapes.insert_perm x _).trans ((foldr_perm l).cons x)

section
variable {N : Rm} {w0 : World} {ok0 : Nat → Prop} {st : St} {ok : Nat → Prop} {ρ : Rho} {a : Act} {w : World}
theorem var3 (g : Gam N w0 ok0 st ok ρ a w) {id : Nat} {fz : Bool} {x y z : LV} (hid : st.hp id = some (.var fz [x, y, z])) {v : Value} (hv : PRep ρ id 0 v (st.hp id)) :
    ∃ b v0 v1 v2, v = .pointer (some ⟨b, 0, none⟩) ∧ w.cell? ⟨b, 0, none⟩ = some v0 ∧ w.cell? ⟨b, 1, none⟩ = some v1 ∧ w.cell? ⟨b, 2, none⟩ = some v2 ∧ LRep w ok ρ st.hp x v0 ∧ LRep w ok ρ st.hp y v1 ∧ LRep w ok ρ st.hp z v2 := by
  simp only [hid, PRep] at hv
  obtain ⟨b, K, hr, rfl⟩ := hv
  obtain ⟨b', K', cur, ty, q1, q2, q3, q4, q5⟩ := g.obj id _ hid
  rw [hr] at q1
  obtain ⟨rfl, rfl⟩ : b = b' ∧ K = K' := by simpa using q1
  simp only [List.length_cons, List.length_nil, Nat.zero_add, Nat.reduceAdd] at q4 q5
  have e : cur.toList.take 3 = [cur[0], cur[1], cur[2]] := by
    apply List.ext_getElem
    · simp; omega
    · intro i h1 h2
      simp only [List.length_cons, List.length_nil, Nat.zero_add, Nat.reduceAdd] at h2
      match i, h2 with
      | 0, _ => simp
      | 1, _ => simp
      | 2, _ => simp
  rw [e] at q5
  simp only [LReps] at q5
  obtain ⟨v0, r0, e0, _, l0, v1, r1, e1, _, l1, v2, r2, e2, _, l2, _⟩ := q5
  obtain ⟨rfl, rfl⟩ := List.cons.inj e0
  obtain ⟨rfl, rfl⟩ := List.cons.inj e1
  obtain ⟨rfl, _⟩ := List.cons.inj e2
  refine ⟨b, _, _, _, rfl, ?_, ?_, ?_, l0, l1, l2⟩
  · simp only [World.cell?, q2]; simp
  · simp only [World.cell?, q2]; simp
  · simp only [World.cell?, q2]; simp
end
theorem held_ok : EntOK Try.prog 11 (.inn heldG) := by
  intro lo h args l h' he
  unfold heldG at he
  split at he
  · rename_i id
    unfold heldV at he
    split at he
    · rename_i fz x y mid hid
      unfold heldM at he
      split at he
      · rename_i fm vag es hm
        unfold heldK at he
        split at he
        · rename_i ks hks hlo
          split at he
          · rename_i hok
            obtain ⟨hlen, hnd, hbd⟩ := hok
            simp only [Option.some.injEq, Prod.mk.injEq] at he
            obtain ⟨rfl, rfl⟩ := he
            refine ⟨⟨_, Try.func11, by decide, rfl⟩, fun N w0 ok0 env ok ρ a w vs g _ _ hv => ?_⟩
            simp only [LReps] at hv
            obtain ⟨v, r, rfl, _, hp, rfl⟩ := hv
            simp only [LRep] at hp
            obtain ⟨b, v0, v1, v2, rfl, c0, c1, c2, l0, l1, l2⟩ := var3 g hid hp
            simp only [LRep, hm, MRep] at l2
            obtain ⟨mb, Km, hrm, rfl⟩ := l2
            obtain ⟨mb', Km', ms, clock, q1, q2, q3, q4, q5⟩ := g.obj mid _ hm
            rw [hrm] at q1
            obtain ⟨rfl, rfl⟩ : mb = mb' ∧ Km = Km' := by simpa using q1
            have hkeys := keysI_ents hks q3
            obtain ⟨hreads, hints⟩ := entries_int hkeys hbd
            have hmsl : ms.size = ks.length := by
              have := congrArg List.length hkeys
              simpa using this
            have hstamp : MapKept.Stamped ms clock := ⟨q4, q5, by
              rw [hkeys]
              exact List.Pairwise.map _ (fun _ _ h e => h (encZ_inj e)) hnd⟩
            obtain ⟨D, hD⟩ : ∃ D : DataW Unit, D = .map ((ms.toList.map (WideElems.rg Try.prog 3 fun _ => some ((DataW.nil : DataW Unit), []))).foldr DataW.insert []) := ⟨_, rfl⟩
            have hown : w.ownsMap Try.prog 3 (fun _ => some ((DataW.nil : DataW Unit), [])) mb ms.size D :=
              ⟨ms, clock, q2, ⟨by rw [hmsl]; simp only [maxLen]; omega, hstamp, hreads⟩, Nat.le_refl _, hD⟩
            have hperm : (intKeys D).Perm ks := by
              rw [hD]
              show (((ms.toList.map _).foldr DataW.insert []).map fun p => Go.intOf p.1).Perm ks
              have := (foldr_perm (ms.toList.map (WideElems.rg Try.prog 3 fun _ => some ((DataW.nil : DataW Unit), [])))).map fun p => Go.intOf p.1
              rw [hints] at this
              exact this
            have hsize : Maps.size D = ks.length := by
              have e1 : (intKeys D).length = ks.length := hperm.length_eq
              rw [hD] at e1 ⊢
              rw [← e1]
              show _ = (((ms.toList.map _).foldr DataW.insert []).map fun p => Go.intOf p.1).length
              rw [List.length_map]
              rfl
            refine (held_walk b mb ms.size D _ w c2 hown (by rw [hsize]; simp only [maxLen]; omega) (by rw [hsize]; omega)).mono fun e w' ⟨v, ss, he, hS, hrow, hnil, hb⟩ => ?_
            refine ⟨v, he, ?_⟩
            have hsort : (ss.mergeSort fun x y => decide (x ≤ y)) = sortI ks := mergeSort_of_perm_i (hS.trans hperm)
            have hsl : ss.length = ((sortI ks).map fun n => [TV.int .i64 n]).length := by
              have := congrArg List.length hsort
              simpa using this
            rw [hsort, hsl] at hrow
            have hare : RowsAre w ok 1 ((sortI ks).map fun n => [TV.int .i64 n]) ((sortI ks).map encZ) := by
              generalize sortI ks = l
              induction l with
              | nil => exact RowsAre.nil
              | cons n l ih =>
                have h1 : RowsAre w ok [TV.int .i64 n].length [[TV.int .i64 n]] [encZ n] := RowsAre.one (by
                  simp only [ValsRep, TRep]
                  exact ⟨_, _, rfl, fun _ => rfl, rfl, rfl⟩)
                exact h1.append ih
            have hres := own_res (e := 3) (fun c hc => (g.free c hc).1) hb hare hrow
            have hlk : ((sortI ks).map fun n => [TV.int .i64 n]).length = ks.length := by simp [sortI]
            have hth : thaw (lo + 1) (.sl (.own 3) 1 ((sortI ks).map fun n => [TV.int .i64 n])) ⟨env, h⟩ = some (.s (lo + 1) 0 ks.length, ⟨env, upd h (lo + 1) (some (.arr false 3 1 ((sortI ks).map fun n => [TV.int .i64 n])))⟩) := by
              simp only [thaw, thaw1, thawCells, thawOne, hlo, consT, oneT, hlk]
            obtain ⟨ok', ρ', g', hl⟩ := g.called hb hres hth
            exact ⟨ok', ρ', g', hl⟩
          · cases he
        · cases he
      · cases he
    · cases he
  · cases he
theorem rcl_ok : EntOK Try.prog 16 (.inn rclG) := by
  intro lo h args l h' he
  unfold rclG at he
  split at he
  · rename_i id
    unfold rclV at he
    split at he
    · rename_i fz n0 n1 mid hid
      unfold rclM at he
      split at he
      · rename_i fm kag vag es hm
        unfold rclK at he
        split at he
        · rename_i hl1 hl2
          simp only [Option.some.injEq, Prod.mk.injEq] at he
          obtain ⟨rfl, rfl⟩ := he
          refine ⟨⟨_, Try.func16, by decide, rfl⟩, fun N w0 ok0 env ok ρ a w vs g _ _ hv => ?_⟩
          simp only [LReps] at hv
          obtain ⟨v, r, rfl, _, hp, rfl⟩ := hv
          simp only [LRep] at hp
          obtain ⟨b, v0, v1, v2, rfl, c0, c1, c2, l0, l1, l2⟩ := var3 g hid hp
          simp only [LRep, TRep] at l0 l1
          subst l0 l1
          simp only [LRep, hm, MRep] at l2
          obtain ⟨mb, Km, hrm, rfl⟩ := l2
          obtain ⟨mb', Km', ms, clock, q1, q2, q3, q4, q5⟩ := g.obj mid _ hm
          rw [hrm] at q1
          obtain ⟨rfl, rfl⟩ : mb = mb' ∧ Km = Km' := by simpa using q1
          refine (recvClone_walk b n0 n1 mb ms clock w c0 c1 c2 q2).mono fun e w' ⟨he, hw⟩ => ⟨_, he, ?_⟩
          have hb1 : Below w.heap.size w (w.alloc (.map ms clock)) := (Below.refl _ w).alloc (Nat.le_refl _) _
          have hs1 : Same w (w.alloc (.map ms clock)) ok ok := fun c hc => ⟨hb1.block c (g.free c hc).1, hc⟩
          have g1 := g.world hb1
          have g2 := g1.adopt (k := lo + 1) hl1 (o := .map false kag vag es) (x := some (w.heap.size, 0)) (fun c K hx => by
            obtain ⟨rfl, rfl⟩ : w.heap.size = c ∧ 0 = K := by simpa using hx
            exact ⟨⟨g.below.size, g.res_none⟩, by simp, fun hc => Nat.lt_irrefl _ (g.free _ hc).1, fun i p K' hi hpl hr => Nat.lt_irrefl _ (g.fresh i p _ K' hi hpl hr).2⟩)
            ⟨_, _, ms, clock, upd_same _ _ _, (MapKept.heap_alloc w _).1, q3.to hs1, q4, q5⟩
          have hl2' : (upd h (lo + 1) (some (.map false kag vag es))) (lo + 2) = none := by
            rw [upd_ne _ _ (by omega)]; exact hl2
          have g3 := g2.new (k := lo + 2) hl2' (o := .var false [.v (.int .i64 n0), .v (.int .i64 n1), .m (lo + 1)]) #[.int .i64 n0, .int .i64 n1, .map (some w.heap.size)] 51 3 (by
            have hz : (w.alloc (.map ms clock)).heap.size = w.heap.size + 1 := by simp
            refine ⟨_, 3, _, _, upd_same _ _ _, (MapKept.heap_alloc _ _).1, by simp, by simp, ?_⟩
            simp only [LReps, LRep, TRep, MRep, List.length_cons, List.length_nil]
            refine ⟨_, _, rfl, fun _ => rfl, rfl, _, _, rfl, fun _ => rfl, rfl, _, _, rfl, fun _ => rfl, ?_, rfl⟩
            rw [upd_ne _ _ (by omega), upd_same]
            exact ⟨_, 0, by rw [upd_ne _ _ (by omega), upd_same], rfl⟩)
          have g4 := g3.drew
          subst hw
          refine ⟨_, _, g4, ?_⟩
          simp only [LRep, upd_same, PRep]
          exact ⟨_, _, rfl, by simp⟩
        · cases he
      · cases he
    · cases he
  · cases he
end Sx
end Go.Proofs.Ytkliiknolnodjaa
namespace Go.Proofs.Ytkliiknolnodjaa.Sx
open Go
abbrev Held := Int × List UInt8
def cBs (b : List UInt8) : List TV := [.sl .shared 1 (rowsBy cByte b)]
/-- a map's entries -/
def entsR : List Held → List (List TV × List TV)
  | [] => []
  | (n, b) :: l => ([.int .i64 n], cBs b) :: entsR l
def lookR (n : Int) : List Held → Option (List UInt8)
  | [] => none
  | (k, b) :: l => if n = k then some b else lookR n l
def dropR (n : Int) : List Held → List Held
  | [] => []
  | (k, b) :: l => if n = k then l else (k, b) :: dropR n l
/-- all that are in their turn -/
def drainR : Nat → Int → List Held → List (List UInt8) × Int × List Held
  | 0, got, l => ([], got, l)
  | f + 1, got, l => match lookR (got + 1) l with
    | none => ([], got, l)
    | some b => (b :: (drainR f (got + 1) (dropR (got + 1) l)).1, (drainR f (got + 1) (dropR (got + 1) l)).2)
theorem find_ents (n : Int) : ∀ l : List Held, findM [.i] [.v (.int .i64 n)] (entsR l) = some ((lookR n l).map cBs)
  | [] => rfl
  | (k, b) :: l => by
    simp only [entsR, findM, lookR, liftV, eqCells, eqCell, if_true, andO, Bool.and_true]
    by_cases h : n = k
    · simp [h]
    · simp [h, find_ents n l]
theorem upd_ents (n : Int) (b : List UInt8) : ∀ l : List Held, lookR n l = none → updM [.i] [.v (.int .i64 n)] [.int .i64 n] (cBs b) (entsR l) = some (entsR (l ++ [(n, b)]))
  | [], _ => rfl
  | (k, c) :: l, h => by
    simp only [lookR] at h
    split at h
    · cases h
    · rename_i hn
      simp only [entsR, updM, liftV, eqCells, eqCell, if_true, andO, Bool.and_true, List.cons_append]
      simp [hn, upd_ents n b l h, consM]
theorem del_ents (n : Int) : ∀ l : List Held, delM [.i] [.v (.int .i64 n)] (entsR l) = some (entsR (dropR n l))
  | [] => rfl
  | (k, c) :: l => by
    simp only [entsR, delM, dropR, liftV, eqCells, eqCell, if_true, andO, Bool.and_true]
    by_cases hn : n = k
    · simp [hn]
    · simp [hn, del_ents n l, consM, entsR]
theorem dropR_len {n : Int} : ∀ {l : List Held}, lookR n l ≠ none → (dropR n l).length + 1 = l.length
  | [], h => absurd rfl h
  | (k, c) :: l, h => by
    simp only [lookR] at h
    simp only [dropR]
    split
    · simp
    · rename_i hn
      rw [if_neg hn] at h
      simp only [List.length_cons]
      have := dropR_len h
      omega
theorem keys_ents : ∀ l : List Held, keysI (entsR l) = some (l.map (·.1))
  | [] => rfl
  | (k, c) :: l => by simp only [entsR, keysI, keys_ents l]; rfl
theorem keys_append (l m : List Held) : (l ++ m).map (·.1) = l.map (·.1) ++ m.map (·.1) := List.map_append
theorem look_none {n : Int} : ∀ {l : List Held}, lookR n l = none ↔ n ∉ l.map (·.1)
  | [] => by simp [lookR]
  | (k, c) :: l => by
    simp only [lookR, List.map_cons, List.mem_cons]
    by_cases h : n = k
    · simp [h]
    · simp [h, look_none (l := l)]
/-- whether a number may come -/
def mayR (W got : Int) (L : List Held) (seq : Int) : Prop := lookR seq L = none ∧ got < seq ∧ seq ≤ got + W
/-- what comes: a number, and bytes -/
def cEv (x : Int × List UInt8) : List TV := [.int .i64 x.1, .sl .shared 1 (rowsBy cByte x.2)]
end Go.Proofs.Ytkliiknolnodjaa.Sx
namespace Go.Proofs.Ytkliiknolnodjaa.Sx
open Go
theorem dropR_sub (n : Int) : ∀ l : List Held, (dropR n l).Sublist l
  | [] => .slnil
  | (k, b) :: l => by
    simp only [dropR]
    split
    · exact List.sublist_cons_self _ _
    · exact (dropR_sub n l).cons_cons _
theorem dropR_mem {n : Int} : ∀ {l : List Held}, (l.map (·.1)).Nodup → ∀ e, e ∈ dropR n l ↔ e ∈ l ∧ e.1 ≠ n
  | [], _, e => by simp [dropR]
  | (k, b) :: l, h, e => by
    simp only [List.map_cons, List.nodup_cons] at h
    simp only [dropR]
    split
    · rename_i hk
      subst hk
      constructor
      · intro he
        exact ⟨List.mem_cons_of_mem _ he, fun e1 => h.1 (e1 ▸ List.mem_map_of_mem he)⟩
      · rintro ⟨he, hn⟩
        rcases List.mem_cons.1 he with rfl | he
        · exact absurd rfl hn
        · exact he
    · rename_i hk
      rw [List.mem_cons, dropR_mem h.2 e, List.mem_cons]
      constructor
      · rintro (rfl | ⟨h1, h2⟩)
        · exact ⟨.inl rfl, fun e1 => hk e1.symm⟩
        · exact ⟨.inr h1, h2⟩
      · rintro ⟨rfl | h1, h2⟩
        · exact .inl rfl
        · exact .inr ⟨h1, h2⟩
theorem lookR_mem {n : Int} {b : List UInt8} : ∀ {l : List Held}, lookR n l = some b → (n, b) ∈ l
  | [], h => by cases h
  | (k, c) :: l, h => by
    simp only [lookR] at h
    split at h
    · rename_i e
      obtain rfl := Option.some.inj h
      subst e
      simp
    · exact List.mem_cons_of_mem _ (lookR_mem h)
theorem lookR_of {n : Int} {b : List UInt8} : ∀ {l : List Held}, (l.map (·.1)).Nodup → (n, b) ∈ l → lookR n l = some b
  | [], _, h => by simp at h
  | (k, c) :: l, hn, h => by
    simp only [List.map_cons, List.nodup_cons] at hn
    simp only [lookR]
    rcases List.mem_cons.1 h with h | h
    · cases h; simp
    · rw [if_neg fun e : n = k => hn.1 (by rw [← e]; exact List.mem_map_of_mem (f := (·.1)) h)]
      exact lookR_of hn.2 h
theorem nodup_sub {l m : List Held} (h : l.Sublist m) (hm : (m.map (·.1)).Nodup) : (l.map (·.1)).Nodup := hm.sublist (h.map _)
/-- what all that are in their turn come to -/
theorem drain_all : ∀ (f : Nat) (got : Int) (L : List Held), (L.map (·.1)).Nodup → (∀ e ∈ L, got < e.1) → L.length ≤ f →
    (drainR f got L).2.1 = got + ((drainR f got L).1.length : Int) ∧ (∀ (i : Nat) (h : i < (drainR f got L).1.length), (got + 1 + (i : Int), (drainR f got L).1[i]) ∈ L) ∧ (drainR f got L).2.2.Sublist L ∧
    (∀ e, e ∈ (drainR f got L).2.2 ↔ e ∈ L ∧ (drainR f got L).2.1 < e.1) ∧ ∀ e ∈ (drainR f got L).2.2, (drainR f got L).2.1 + 1 < e.1 := by
  intro f
  induction f with
  | zero =>
    intro got L hn hg hL
    have : L = [] := List.eq_nil_of_length_eq_zero (by omega)
    subst this
    refine ⟨by simp [drainR], fun i h => ?_, .slnil, by simp [drainR], by simp [drainR]⟩
    simp [drainR] at h
  | succ f ih =>
    intro got L hn hg hL
    cases hl : lookR (got + 1) L with
    | none =>
      have e : drainR (f + 1) got L = ([], got, L) := by simp only [drainR, hl]
      rw [e]
      refine ⟨by simp, fun i h => by simp at h, List.Sublist.refl _, fun e => ⟨fun h => ⟨h, hg e h⟩, fun h => h.1⟩, fun e he => ?_⟩
      have h1 := hg e he
      have h2 : e.1 ≠ got + 1 := fun h => look_none.1 hl (h ▸ List.mem_map_of_mem he)
      show got + 1 < e.1
      omega
    | some b =>
      have e : drainR (f + 1) got L = (b :: (drainR f (got + 1) (dropR (got + 1) L)).1, (drainR f (got + 1) (dropR (got + 1) L)).2) := by simp only [drainR, hl]
      have hsub := dropR_sub (got + 1) L
      have hmem := fun x => dropR_mem (n := got + 1) hn x
      have hlen := dropR_len (n := got + 1) (l := L) (by rw [hl]; simp)
      obtain ⟨i1, i2, i3, i4, i5⟩ := ih (got + 1) (dropR (got + 1) L) (nodup_sub hsub hn) (fun x hx => by
        have := (hmem x).1 hx
        have := hg x this.1
        have : x.1 ≠ got + 1 := ((hmem x).1 hx).2
        omega) (by omega)
      rw [e]
      generalize drainR f (got + 1) (dropR (got + 1) L) = r at *
      obtain ⟨t, g', L'⟩ := r
      simp only at *
      refine ⟨by rw [i1]; simp only [List.length_cons]; omega, fun i h => ?_, i3.trans hsub, fun x => ?_, i5⟩
      · cases i with
        | zero => simpa using lookR_mem hl
        | succ i =>
          have := (hmem _).1 (i2 i (by simpa using h))
          rw [show got + 1 + 1 + (i : Int) = got + 1 + ((i + 1 : Nat) : Int) by omega] at this
          simpa using this.1
      · rw [i4, hmem]
        constructor
        · rintro ⟨⟨h1, h2⟩, h3⟩; exact ⟨h1, h3⟩
        · rintro ⟨h1, h3⟩; exact ⟨⟨h1, by omega⟩, h3⟩
/-- what a receiver keeps -/
structure Keeps (W got : Int) (L : List Held) : Prop where
  nd : (L.map (·.1)).Nodup
  rng : ∀ e ∈ L, got + 1 < e.1 ∧ e.1 ≤ got + W
  win : 1 ≤ W ∧ W ≤ 64
  pos : 0 ≤ got
theorem ints_le : ∀ (n : Nat) (a : Int) (l : List Int), l.Nodup → (∀ x ∈ l, a < x ∧ x ≤ a + n) → l.length ≤ n
  | 0, a, l, _, h => by
    cases l with
    | nil => simp
    | cons x l => have := h x (by simp); omega
  | n + 1, a, l, hn, h => by
    have h1 := ints_le n a (l.erase (a + ((n + 1 : Nat) : Int))) (hn.erase _) fun x hx => by
      have := (hn.mem_erase_iff).1 hx
      have h2 := h x this.2
      have := this.1
      omega
    rw [List.length_erase] at h1
    split at h1 <;> omega
theorem Keeps.len {W got : Int} {L : List Held} (h : Keeps W got L) : L.length ≤ 63 := by
  have := ints_le (W - 1).toNat (got + 1) (L.map (·.1)) h.nd fun x hx => by
    obtain ⟨e, he, rfl⟩ := List.mem_map.1 hx
    have := h.rng e he
    have := h.win
    omega
  rw [List.length_map] at this
  have := h.win
  omega
theorem Keeps.new {W : Int} (h : 1 ≤ W ∧ W ≤ 64) : Keeps W 0 [] := ⟨List.nodup_nil, by simp, h, by omega⟩
/-- what a take that may be comes to -/
theorem Keeps.take {W got : Int} {L : List Held} (h : Keeps W got L) {seq : Int} (b : List UInt8) (hm : mayR W got L seq) : ∃ (t : List (List UInt8)) (L' : List Held),
    drainR (L.length + 1) got (L ++ [(seq, b)]) = (t, got + (t.length : Int), L') ∧ Keeps W (got + (t.length : Int)) L' ∧ (∀ (i : Nat) (hi : i < t.length), (got + 1 + (i : Int), t[i]) ∈ L ++ [(seq, b)]) ∧
    (∀ e, e ∈ L' ↔ e ∈ L ++ [(seq, b)] ∧ got + (t.length : Int) < e.1) := by
  obtain ⟨m1, m2, m3⟩ := hm
  have hnd : ((L ++ [(seq, b)]).map (·.1)).Nodup := by
    rw [keys_append, List.nodup_append]
    refine ⟨h.nd, by simp, fun x hx y hy => ?_⟩
    simp only [List.map_cons, List.map_nil, List.mem_singleton] at hy
    subst hy
    exact fun e => look_none.1 m1 (e ▸ hx)
  have hg : ∀ e ∈ L ++ [(seq, b)], got < e.1 ∧ e.1 ≤ got + W := fun e he => by
    rcases List.mem_append.1 he with he | he
    · have := h.rng e he; omega
    · simp only [List.mem_singleton] at he; subst he; exact ⟨m2, m3⟩
  obtain ⟨i1, i2, i3, i4, i5⟩ := drain_all (L.length + 1) got (L ++ [(seq, b)]) hnd (fun e he => (hg e he).1) (by simp)
  generalize drainR (L.length + 1) got (L ++ [(seq, b)]) = r at *
  obtain ⟨t, g', L'⟩ := r
  simp only at *
  subst i1
  refine ⟨t, L', rfl, ⟨nodup_sub i3 hnd, fun e he => ⟨i5 e he, ?_⟩, h.win, by have := h.pos; omega⟩, i2, i4⟩
  have := (hg e ((i4 e).1 he).1).2
  omega
/-- the numbers that are held, sorted: rising -/
theorem sortI_perm (l : List Int) : (sortI l).Perm l := List.mergeSort_perm l _
theorem sortI_len (l : List Int) : (sortI l).length = l.length := (sortI_perm l).length_eq
theorem sortI_le (l : List Int) : (sortI l).Pairwise fun a b => a ≤ b := by
  have tr : ∀ a b c : Int, decide (a ≤ b) = true → decide (b ≤ c) = true → decide (a ≤ c) = true := fun a b c h1 h2 => by simp only [decide_eq_true_eq] at *; omega
  have to : ∀ a b : Int, (decide (a ≤ b) || decide (b ≤ a)) = true := fun a b => by simp only [Bool.or_eq_true, decide_eq_true_eq]; omega
  exact (List.pairwise_mergeSort tr to l).imp fun h => by simpa using h
theorem sortI_lt {l : List Int} (h : l.Nodup) : (sortI l).Pairwise fun a b => a < b := by
  have h1 := sortI_le l
  have h2 : (sortI l).Nodup := (sortI_perm l).nodup_iff.2 h
  exact (List.Pairwise.and h1 h2).imp fun ⟨a, b⟩ => by omega
theorem sortI_get {l : List Int} (h : l.Nodup) {i : Nat} (hi : i < (sortI l).length) : (sortI l)[i] ∈ l ∧ ∀ j (hj : j < i), (sortI l)[j] < (sortI l)[i] :=
  ⟨(sortI_perm l).mem_iff.1 (List.getElem_mem hi), fun j hj => List.pairwise_iff_getElem.1 (sortI_lt h) j i (by omega) hi hj⟩
end Go.Proofs.Ytkliiknolnodjaa.Sx
namespace Go.Proofs.Ytkliiknolnodjaa.Sx
open Go
/-- a row with one more in its place -/
def insR (x : Held) : List Held → List Held
  | [] => [x]
  | e :: M => if x.1 < e.1 then x :: e :: M else e :: insR x M
/-- all at the head that are in their turn -/
def drainM : Int → List Held → List (List UInt8) × Int × List Held
  | got, [] => ([], got, [])
  | got, (k, b) :: M => if k = got + 1 then (b :: (drainM (got + 1) M).1, (drainM (got + 1) M).2) else ([], got, (k, b) :: M)
/-- keys that rise -/
def Up (M : List Held) : Prop := (M.map (·.1)).Pairwise fun a b => a < b
theorem Up.tail {e : Held} {M : List Held} (h : Up (e :: M)) : Up M := (List.pairwise_cons.1 h).2
theorem Up.head {e : Held} {M : List Held} (h : Up (e :: M)) : ∀ x ∈ M, e.1 < x.1 := fun x hx => (List.pairwise_cons.1 h).1 x.1 (List.mem_map_of_mem hx)
theorem Up.cons {e : Held} {M : List Held} (h : Up M) (h1 : ∀ x ∈ M, e.1 < x.1) : Up (e :: M) := by
  refine List.pairwise_cons.2 ⟨fun a ha => ?_, h⟩
  obtain ⟨x, hx, rfl⟩ := List.mem_map.1 ha
  exact h1 x hx
theorem insR_perm (x : Held) : ∀ M : List Held, (insR x M).Perm (x :: M)
  | [] => .refl _
  | e :: M => by
    simp only [insR]
    split
    · exact .refl _
    · exact ((insR_perm x M).cons e).trans (.swap x e M)
theorem insR_up {x : Held} : ∀ {M : List Held}, Up M → x.1 ∉ M.map (·.1) → Up (insR x M)
  | [], _, _ => by unfold Up insR; simp
  | e :: M, h, hn => by
    simp only [List.map_cons, List.mem_cons, not_or] at hn
    simp only [insR]
    split
    · rename_i hlt
      refine h.cons fun y hy => ?_
      rcases List.mem_cons.1 hy with rfl | hy
      · exact hlt
      · have := h.head y hy; omega
    · rename_i hlt
      refine (insR_up h.tail hn.2).cons fun y hy => ?_
      rcases List.mem_cons.1 ((insR_perm x M).mem_iff.1 hy) with rfl | hy
      · have := hn.1; omega
      · exact h.head y hy
theorem insR_len (x : Held) (M : List Held) : (insR x M).length = M.length + 1 := by rw [(insR_perm x M).length_eq]; rfl
theorem drop_perm {n : Int} {b : List UInt8} : ∀ {L : List Held}, lookR n L = some b → L.Perm ((n, b) :: dropR n L)
  | [], h => by cases h
  | (k, c) :: L, h => by
    simp only [lookR] at h
    simp only [dropR]
    split at h
    · rename_i e
      obtain rfl := Option.some.inj h
      subst e
      rw [if_pos rfl]
    · rename_i e
      rw [if_neg e]
      exact ((drop_perm h).cons (k, c)).trans (.swap _ _ _)
/-- both are drained alike -/
theorem drain_both : ∀ (f : Nat) (got : Int) (L M : List Held), L.length ≤ f → L.Perm M → Up M → (∀ e ∈ M, got < e.1) →
    (drainM got M).1 = (drainR f got L).1 ∧ (drainM got M).2.1 = (drainR f got L).2.1 ∧ (drainR f got L).2.2.Perm (drainM got M).2.2 ∧ Up (drainM got M).2.2 := by
  intro f
  induction f with
  | zero =>
    intro got L M hl hp hu hg
    have hL : L = [] := List.eq_nil_of_length_eq_zero (by omega)
    subst hL
    have hM : M = [] := List.eq_nil_of_length_eq_zero (by rw [← hp.length_eq]; rfl)
    subst hM
    exact ⟨rfl, rfl, .refl _, hu⟩
  | succ f ih =>
    intro got L M hl hp hu hg
    have hnd : (L.map (·.1)).Nodup := by
      rw [(hp.map _).nodup_iff]
      exact hu.imp fun h => by omega
    cases M with
    | nil =>
      have hL : L = [] := List.eq_nil_of_length_eq_zero (by rw [hp.length_eq]; rfl)
      subst hL
      exact ⟨rfl, rfl, .refl _, hu⟩
    | cons e M =>
      obtain ⟨k, b⟩ := e
      simp only [drainM]
      by_cases hk : k = got + 1
      · rw [if_pos hk]
        subst hk
        have hl1 : lookR (got + 1) L = some b := lookR_of hnd (hp.mem_iff.2 (by simp))
        have hd := drop_perm hl1
        have hp2 : (dropR (got + 1) L).Perm M := (hd.symm.trans hp).cons_inv
        have hlen := hd.length_eq
        simp only [List.length_cons] at hlen
        obtain ⟨i1, i2, i3, i4⟩ := ih (got + 1) _ M (by omega) hp2 hu.tail (fun x hx => hu.head x hx)
        simp only [drainR, hl1]
        exact ⟨by rw [i1], i2, i3, i4⟩
      · rw [if_neg hk]
        have hl1 : lookR (got + 1) L = none := look_none.2 fun h => by
          obtain ⟨x, hx, hx1⟩ := List.mem_map.1 h
          rcases List.mem_cons.1 (hp.mem_iff.1 hx) with rfl | hx
          · exact hk hx1
          · have h1 := hu.head x hx
            have h2 := hg (k, b) (by simp)
            simp only at h1 h2
            omega
        simp only [drainR, hl1]
        exact ⟨trivial, trivial, hp, hu⟩
theorem up_sort {L M : List Held} (hp : L.Perm M) (hu : Up M) : sortI (L.map (·.1)) = M.map (·.1) := by
  have h1 : (sortI (L.map (·.1))).Perm (M.map (·.1)) := (sortI_perm _).trans (hp.map _)
  refine h1.eq_of_pairwise (le := fun a b => a ≤ b) ?_ (sortI_le _) (hu.imp fun h => by omega)
  intro a b _ _ h1 h2
  omega
theorem drainM_none {got : Int} {k : Int} {b : List UInt8} {M : List Held} (h : ¬ k = got + 1) : drainM got ((k, b) :: M) = ([], got, (k, b) :: M) := by simp only [drainM, if_neg h]
theorem drainM_some {got : Int} {b : List UInt8} {M : List Held} : drainM got ((got + 1, b) :: M) = (b :: (drainM (got + 1) M).1, (drainM (got + 1) M).2) := by simp only [drainM, if_true]
theorem drainR_len : ∀ (f : Nat) (got : Int) (L : List Held), (drainR f got L).1.length ≤ f
  | 0, _, _ => by simp [drainR]
  | f + 1, got, L => by
    simp only [drainR]
    split
    · simp
    · simpa using drainR_len f _ _
end Go.Proofs.Ytkliiknolnodjaa.Sx
namespace Go.Proofs.Ytkliiknolnodjaa
open Go Go.Shelf
def Try.clone20_ren : Go.Shelf.Ren := ⟨fun | 41 => 20 | n => n, fun | 22 => 30 | 23 => 5 | 4 => 4 | n => n, fun | n => n⟩
theorem Try.clone20 : Go.Proofs.SlLaysE0.n41 Try.prog Try.clone20_ren where
  mixed := (by kernel_rfl)
  f41 := ⟨Try.f20.name, by decide, Try.func20.trans (congrArg some (by kernel_rfl))⟩
  t4 := Try.underlying4
  a4 := Try.isAgg4
  z4 := Try.sizeOf4
  v4 := Try.zeroValue4
  t22 := Try.underlying30
  a22 := Try.isAgg30
  z22 := Try.sizeOf30
  v22 := Try.zeroValue30
noncomputable def Try.cloneI20 : TypeInfo := (Try.prog.info? 5).get (by kernel_rfl)
namespace Sx
theorem clone20_ok : EntOK Try.prog 20 (.ext (cloneG 5 1 1)) :=
  clone_ok Try.clone20 Try.cloneI20 (.int .u8 0) 1 1 (by kernel_rfl) (by kernel_rfl) (by kernel_rfl) (by kernel_rfl) (by rfl) (by decide) Try.sizeOf5
noncomputable def exts : List (Nat × FEnt) := [(20, .ext (cloneG 5 1 1)), (11, .inn heldG), (16, .inn rclG)]
theorem exts_ok : ∀ x ∈ exts, EntOK Try.prog x.1 x.2 :=
  List.forall_mem_cons.2 ⟨clone20_ok, List.forall_mem_cons.2 ⟨held_ok, List.forall_mem_cons.2 ⟨rcl_ok, fun _ h => by cases h⟩⟩⟩
end Sx
end Go.Proofs.Ytkliiknolnodjaa
namespace Go.Proofs.Ytkliiknolnodjaa.Sx
open Go
@[go_sem] def nn (i : IOp) : IOper := ⟨i, none⟩
@[go_sem] def ci (n : Int) : X := .c (.v (.int .i64 n))

/-- slots [1, 6, 7, 8, 10, 11, 12]; objects [6, 10, 10386] -/
def f3_b2 : ICode := .seq (.seq (.region [nn (.mv 48 (.t 12)), nn (.mv 49 (.t 10)), nn (.len 50 false (.t 49)), nn (.bin 51 false .lss (.t 48) (.t 50))] ⟨[1, 6, 7, 8, 10, 11, 12, 51], [(6, 6), (10, 10), (10386, 10386)]⟩) (.cond (.t 51) (.skip) (.seq (.gc ⟨[1, 6, 7, 8, 10, 11], [(6, 6), (10, 10), (10386, 10386)]⟩) (.exit 2)))) (.seq (.block 3 (.seq (.region [nn (.mv 54 (.t 7)), nn (.bin 55 false .add (.t 54) (ci 1)), nn (.mv 7 (.t 55))] ⟨[1, 6, 7, 8, 10, 11, 12], [(6, 6), (10, 10), (10386, 10386)]⟩) (.seq (.region [nn (.mv 56 (.t 10)), nn (.mv 57 (.t 12)), nn (.iaddr 58 (.t 56) (.t 57) 1), nn (.load 59 (.t 58) 1 false), nn (.len 60 false (.t 59)), nn (.bin 61 false .neq (.t 60) (ci 1)), nn (.mv 62 (.t 61)), ⟨.mv 63 (.t 10), some (62, false)⟩, ⟨.mv 64 (.t 12), some (62, false)⟩, ⟨.iaddr 65 (.t 63) (.t 64) 1, some (62, false)⟩, ⟨.load 66 (.t 65) 1 false, some (62, false)⟩, ⟨.iaddr 67 (.t 66) (ci 0) 1, some (62, false)⟩, ⟨.load 68 (.t 67) 1 false, some (62, false)⟩, ⟨.conv 69 .i64 (.t 68), some (62, false)⟩, ⟨.mv 70 (.t 7), some (62, false)⟩, ⟨.bin 71 false .neq (.t 69) (.t 70), some (62, false)⟩, nn (.pick 72 (.t 62) (.c (.v (.bool true))) (.t 71))] ⟨[1, 6, 7, 8, 10, 11, 12, 72], [(6, 6), (10, 10), (10386, 10386)]⟩) (.cond (.t 72) (.seq (.region [nn (.mv 4 (.c (.v (.bool false))))] ⟨[4], []⟩) (.ret)) (.skip))))) (.region [nn (.mv 52 (.t 12)), nn (.bin 53 false .add (.t 52) (ci 1)), nn (.mv 12 (.t 53))] ⟨[1, 6, 7, 8, 10, 11, 12], [(6, 6), (10, 10), (10386, 10386)]⟩))
def f3_l2 : ICode := .loop f3_b2
theorem f3_l2_eq (C : Cs) (lo : Nat) (st : St) : E C lo f3_l2 st = seqK (E C lo f3_l2) (E C lo f3_b2 st) := E_loop C lo f3_b2 st
/-- slots [1, 6, 7, 8, 13, 14]; objects [6, 13, 10386] -/
def f3_b3 : ICode := .seq (.seq (.region [nn (.mv 93 (.t 14)), nn (.mv 94 (.t 13)), nn (.len 95 false (.t 94)), nn (.bin 96 false .lss (.t 93) (.t 95))] ⟨[1, 6, 7, 8, 13, 14, 96], [(6, 6), (13, 13), (10386, 10386)]⟩) (.cond (.t 96) (.skip) (.seq (.gc ⟨[1, 6, 7, 8], [(6, 6), (10386, 10386)]⟩) (.exit 4)))) (.seq (.block 5 (.seq (.draw [nn (.mv 99 (.t 13)), nn (.mv 100 (.t 14)), nn (.iaddr 101 (.t 99) (.t 100) 1), nn (.load 102 (.t 101) 1 false), nn (.mv 103 (.t 7)), nn (.bin 104 false .add (.t 103) (ci 1)), nn (.bin 105 false .leq (.t 102) (.t 104)), nn (.mv 106 (.t 105)), ⟨.mv 107 (.t 14), some (106, false)⟩, ⟨.bin 108 false .gtr (.t 107) (ci 0), some (106, false)⟩, ⟨.mv 109 (.t 108), some (106, false)⟩, ⟨.mv 110 (.t 13), some (109, true)⟩, ⟨.mv 111 (.t 14), some (109, true)⟩, ⟨.bin 112 false .sub (.t 111) (ci 1), some (109, true)⟩, ⟨.iaddr 113 (.t 110) (.t 112) 1, some (109, true)⟩, ⟨.load 114 (.t 113) 1 false, some (109, true)⟩, ⟨.mv 115 (.t 13), some (109, true)⟩, ⟨.mv 116 (.t 14), some (109, true)⟩, ⟨.iaddr 117 (.t 115) (.t 116) 1, some (109, true)⟩, ⟨.load 118 (.t 117) 1 false, some (109, true)⟩, ⟨.bin 119 false .geq (.t 114) (.t 118), some (109, true)⟩, ⟨.pick 120 (.t 109) (.t 119) (.c (.v (.bool false))), some (106, false)⟩, nn (.pick 121 (.t 106) (.c (.v (.bool true))) (.t 120))] [0, 0, 3, 7, 0, 16, 63, 127, 255, 511, 1023, 2047, 2047, 6143, 16383, 32767, 2047, 2047, 198655, 460799, 1048575, 2097151, 4194303] ⟨[1, 6, 7, 8, 13, 14, 121], [(6, 6), (13, 13), (10386, 10386)]⟩) (.cond (.t 121) (.seq (.region [nn (.mv 4 (.c (.v (.bool false))))] ⟨[4], []⟩) (.ret)) (.skip)))) (.region [nn (.mv 97 (.t 14)), nn (.bin 98 false .add (.t 97) (ci 1)), nn (.mv 14 (.t 98))] ⟨[1, 6, 7, 8, 13, 14], [(6, 6), (13, 13), (10386, 10386)]⟩))
def f3_l3 : ICode := .loop f3_b3
theorem f3_l3_eq (C : Cs) (lo : Nat) (st : St) : E C lo f3_l3 st = seqK (E C lo f3_l3) (E C lo f3_b3 st) := E_loop C lo f3_b3 st
/-- slots [1, 6, 7, 8]; objects [6, 10386] -/
def f3_b1 : ICode := .seq (.seq (.region [nn (.mv 24 (.t 8)), nn (.mv 25 (.t 1)), nn (.len 26 false (.t 25)), nn (.bin 27 false .lss (.t 24) (.t 26)), nn (.mv 28 (.t 27)), ⟨.mv 29 (.t 8), some (28, true)⟩, ⟨.bin 30 false .lss (.t 29) (ci 150), some (28, true)⟩, nn (.pick 31 (.t 28) (.t 30) (.c (.v (.bool false))))] ⟨[1, 6, 7, 8, 31], [(6, 6), (10386, 10386)]⟩) (.cond (.t 31) (.skip) (.seq (.gc ⟨[], []⟩) (.exit 0)))) (.seq (.block 1 (.seq (.region [nn (.mv 34 (.t 1)), nn (.mv 35 (.t 8)), nn (.iaddr 36 (.t 34) (.t 35) 1), nn (.load 37 (.t 36) 1 false), nn (.bin 38 false .rem (.t 37) (ci 20)), nn (.mv 9 (.t 38))] ⟨[1, 6, 7, 8, 9], [(6, 6), (10386, 10386)]⟩) (.seq (.region [nn (.mv 40 (.t 6)), nn (.mv 41 (.t 9)), nn (.mv 42 (.t 9)), nn (.conv 43 .u8 (.t 42)), nn (.bslice 44 5 1 [(.t 43)]), nn (.icall 45 2 (.fn 10) [(.t 40), (.t 41), (.t 44)]), nn (.mv 39 (.t 45)), nn (.ext 46 (.t 39) 0), nn (.ext 47 (.t 39) 1), nn (.mv 10 (.t 46)), nn (.mv 11 (.t 47))] ⟨[1, 6, 7, 8, 10, 11], [(6, 6), (2000006, 10), (10386, 10386)]⟩) (.seq (.seq (.region [nn (.mv 12 (ci 0))] ⟨[1, 6, 7, 8, 10, 11, 12], [(6, 6), (10, 10), (10386, 10386)]⟩) (.block 2 (f3_l2))) (.seq (.region [nn (.mv 73 (.t 6)), nn (.icall 74 3 (.fn 11) [(.t 73)]), nn (.mv 13 (.t 74))] ⟨[1, 6, 7, 8, 10, 11, 13], [(6, 6), (10, 10), (3000001, 13), (10386, 10386)]⟩) (.seq (.seq (.region [nn (.mv 75 (.t 6)), nn (.call 76 (.fn 12) [(.t 75)]), nn (.mv 77 (.t 7)), nn (.bin 78 false .neq (.t 76) (.t 77)), nn (.mv 79 (.t 78)), ⟨.mv 80 (.t 11), some (79, false)⟩, ⟨.bin 81 false .neq (.t 80) (ci 0), some (79, false)⟩, ⟨.mv 82 (.t 81), some (79, false)⟩, ⟨.mv 83 (.t 10), some (82, true)⟩, ⟨.len 84 false (.t 83), some (82, true)⟩, ⟨.bin 85 false .gtr (.t 84) (ci 0), some (82, true)⟩, ⟨.pick 86 (.t 82) (.t 85) (.c (.v (.bool false))), some (79, false)⟩, nn (.pick 87 (.t 79) (.c (.v (.bool true))) (.t 86)), nn (.mv 88 (.t 87)), ⟨.mv 89 (.t 13), some (88, false)⟩, ⟨.len 90 false (.t 89), some (88, false)⟩, ⟨.bin 91 false .gtr (.t 90) (ci 64), some (88, false)⟩, nn (.pick 92 (.t 88) (.c (.v (.bool true))) (.t 91))] ⟨[1, 6, 7, 8, 13, 92], [(6, 6), (13, 13), (10386, 10386)]⟩) (.cond (.t 92) (.seq (.region [nn (.mv 4 (.c (.v (.bool false))))] ⟨[4], []⟩) (.ret)) (.skip))) (.seq (.region [nn (.mv 14 (ci 0))] ⟨[1, 6, 7, 8, 13, 14], [(6, 6), (13, 13), (10386, 10386)]⟩) (.block 4 (f3_l3))))))))) (.region [nn (.mv 32 (.t 8)), nn (.bin 33 false .add (.t 32) (ci 1)), nn (.mv 8 (.t 33))] ⟨[1, 6, 7, 8], [(6, 6), (10386, 10386)]⟩))
def f3_l1 : ICode := .loop f3_b1
theorem f3_l1_eq (C : Cs) (lo : Nat) (st : St) : E C lo f3_l1 st = seqK (E C lo f3_l1) (E C lo f3_b1 st) := E_loop C lo f3_b1 st
/-- tracery/tracerylaw17.ReceiverTurns -/
def f3 : IFn := ⟨.seq (.region [nn (.mv 4 (.c (.v (.bool false))))] ⟨[0, 1], []⟩) (.seq (.region [nn (.call 15 (.fn 8) []), nn (.mv 5 (.t 15))] ⟨[0, 1, 5], []⟩) (.seq (.region [nn (.mv 16 (.t 0)), nn (.icall 17 1 (.fn 9) [(.t 16)]), nn (.mv 6 (.t 17))] ⟨[1, 5, 6], [(1000002, 6), (1010130, 10386)]⟩) (.seq (.seq (.region [nn (.mv 18 (.t 5)), nn (.un 19 .not (.t 18)), nn (.mv 20 (.t 19)), ⟨.mv 21 (.t 6), some (20, false)⟩, ⟨.isnil 22 false true (.t 21), some (20, false)⟩, nn (.pick 23 (.t 20) (.c (.v (.bool true))) (.t 22))] ⟨[1, 6, 23], [(6, 6), (10386, 10386)]⟩) (.cond (.t 23) (.seq (.region [nn (.mv 4 (.c (.v (.bool false))))] ⟨[4], []⟩) (.ret)) (.skip))) (.seq (.region [nn (.mv 7 (ci 0))] ⟨[1, 6, 7], [(6, 6), (10386, 10386)]⟩) (.seq (.seq (.region [nn (.mv 8 (ci 0))] ⟨[1, 6, 7, 8], [(6, 6), (10386, 10386)]⟩) (.block 0 (f3_l1))) (.seq (.region [nn (.mv 4 (.c (.v (.bool true))))] ⟨[4], []⟩) (.ret))))))), [.tmp 4]⟩
theorem f3_chk : chk Try.prog 3 [(0, ⟨[0, 1], []⟩), (1, ⟨[0, 1, 5], []⟩), (2, ⟨[1, 5, 6], [(1000002, 6), (1010130, 10386)]⟩), (3, ⟨[1, 6, 23], [(6, 6), (10386, 10386)]⟩), (4, ⟨[4], []⟩), (5, ⟨[1, 6, 7], [(6, 6), (10386, 10386)]⟩), (6, ⟨[1, 6, 7, 8], [(6, 6), (10386, 10386)]⟩), (7, ⟨[1, 6, 7, 8, 31], [(6, 6), (10386, 10386)]⟩), (8, ⟨[1, 6, 7, 8], [(6, 6), (10386, 10386)]⟩), (9, ⟨[1, 6, 7, 8, 9], [(6, 6), (10386, 10386)]⟩), (10, ⟨[1, 6, 7, 8, 10, 11], [(6, 6), (2000006, 10), (10386, 10386)]⟩), (11, ⟨[1, 6, 7, 8, 10, 11, 12], [(6, 6), (10, 10), (10386, 10386)]⟩), (12, ⟨[1, 6, 7, 8, 10, 11, 12, 51], [(6, 6), (10, 10), (10386, 10386)]⟩), (13, ⟨[1, 6, 7, 8, 10, 11, 12], [(6, 6), (10, 10), (10386, 10386)]⟩), (14, ⟨[1, 6, 7, 8, 10, 11, 12], [(6, 6), (10, 10), (10386, 10386)]⟩), (15, ⟨[1, 6, 7, 8, 10, 11, 12, 72], [(6, 6), (10, 10), (10386, 10386)]⟩), (16, ⟨[4], []⟩), (17, ⟨[1, 6, 7, 8, 10, 11, 13], [(6, 6), (10, 10), (3000001, 13), (10386, 10386)]⟩), (18, ⟨[1, 6, 7, 8, 13, 92], [(6, 6), (13, 13), (10386, 10386)]⟩), (19, ⟨[4], []⟩), (20, ⟨[1, 6, 7, 8, 13, 14], [(6, 6), (13, 13), (10386, 10386)]⟩), (21, ⟨[1, 6, 7, 8, 13, 14, 96], [(6, 6), (13, 13), (10386, 10386)]⟩), (22, ⟨[1, 6, 7, 8, 13, 14], [(6, 6), (13, 13), (10386, 10386)]⟩), (23, ⟨[1, 6, 7, 8, 13, 14, 121], [(6, 6), (13, 13), (10386, 10386)]⟩), (24, ⟨[4], []⟩), (25, ⟨[4], []⟩), (1000000, ⟨[1000017, 2000045, 3000074], []⟩)] [(0, ⟨[], []⟩), (1, ⟨[1, 6, 7, 8], []⟩), (2, ⟨[1, 6, 7, 8, 10, 11], [(6, 6), (10, 10), (10386, 10386)]⟩), (3, ⟨[1, 6, 7, 8, 10, 11, 12], []⟩), (4, ⟨[1, 6, 7, 8], [(6, 6), (10386, 10386)]⟩), (5, ⟨[1, 6, 7, 8, 13, 14], []⟩)] = some f3 := by kernel_rfl
/-- slots [0, 1, 6, 7, 8, 9]; objects [6, 8, 10386] -/
def f4_b1 : ICode := .seq (.seq (.region [nn (.mv 29 (.t 9)), nn (.mv 30 (.t 1)), nn (.len 31 false (.t 30)), nn (.bin 32 false .lss (.t 29) (.t 31)), nn (.mv 33 (.t 32)), ⟨.mv 34 (.t 9), some (33, true)⟩, ⟨.bin 35 false .lss (.t 34) (ci 150), some (33, true)⟩, nn (.pick 36 (.t 33) (.t 35) (.c (.v (.bool false)))), nn (.mv 37 (.t 36)), ⟨.mv 38 (.t 7), some (37, true)⟩, ⟨.bin 39 false .gtr (.t 38) (ci 0), some (37, true)⟩, nn (.pick 40 (.t 37) (.t 39) (.c (.v (.bool false))))] ⟨[0, 1, 6, 7, 8, 9, 40], [(6, 6), (8, 8), (10386, 10386)]⟩) (.cond (.t 40) (.skip) (.seq (.gc ⟨[0, 6, 7, 8], [(6, 6), (8, 8), (10386, 10386)]⟩) (.exit 0)))) (.seq (.block 1 (.seq (.region [nn (.mv 43 (.t 1)), nn (.mv 44 (.t 9)), nn (.iaddr 45 (.t 43) (.t 44) 1), nn (.load 46 (.t 45) 1 false), nn (.mv 47 (.t 7)), nn (.bin 48 false .rem (.t 46) (.t 47)), nn (.mv 10 (.t 48))] ⟨[0, 1, 6, 7, 8, 9, 10], [(6, 6), (8, 8), (10386, 10386)]⟩) (.seq (.seq (.region [nn (.mv 49 (.t 10)), nn (.bin 50 false .lss (.t 49) (ci 0))] ⟨[0, 1, 6, 7, 8, 9, 10, 50], [(6, 6), (8, 8), (10386, 10386)]⟩) (.cond (.t 50) (.region [nn (.mv 51 (.t 10)), nn (.un 52 .neg (.t 51)), nn (.mv 10 (.t 52))] ⟨[0, 1, 6, 7, 8, 9, 10], [(6, 6), (8, 8), (10386, 10386)]⟩) (.skip))) (.seq (.region [nn (.mv 54 (.t 6)), nn (.mv 55 (.t 10)), nn (.bin 56 false .add (.t 55) (ci 1)), nn (.bslice 57 5 1 []), nn (.mv 58 (.t 0)), nn (.mv 59 (.t 10)), nn (.iaddr 60 (.t 58) (.t 59) 1), nn (.load 61 (.t 60) 1 false), nn (.call 62 (.fn 13) [(.t 61)]), nn (.append 63 (.t 57) (.t 62) 5 1 1), nn (.icall 64 2 (.fn 10) [(.t 54), (.t 56), (.t 63)]), nn (.mv 53 (.t 64)), nn (.ext 65 (.t 53) 0), nn (.ext 66 (.t 53) 1), nn (.mv 11 (.t 65)), nn (.mv 12 (.t 66))] ⟨[0, 1, 6, 7, 8, 9, 11], [(6, 6), (8, 8), (2000006, 11), (10386, 10386)]⟩) (.region [nn (.mv 67 (.t 8)), nn (.mv 68 (.t 11)), nn (.append 69 (.t 67) (.t 68) 30 1 24), nn (.mv 8 (.t 69))] ⟨[0, 1, 6, 7, 8, 9], [(6, 6), (69, 8), (10386, 10386)]⟩))))) (.region [nn (.mv 41 (.t 9)), nn (.bin 42 false .add (.t 41) (ci 1)), nn (.mv 9 (.t 42))] ⟨[0, 1, 6, 7, 8, 9], [(6, 6), (8, 8), (10386, 10386)]⟩))
def f4_l1 : ICode := .loop f4_b1
theorem f4_l1_eq (C : Cs) (lo : Nat) (st : St) : E C lo f4_l1 st = seqK (E C lo f4_l1) (E C lo f4_b1 st) := E_loop C lo f4_b1 st
/-- slots [0, 6, 7, 8, 13]; objects [6, 8, 10386] -/
def f4_b2 : ICode := .seq (.seq (.region [nn (.mv 70 (.t 13)), nn (.mv 71 (.t 7)), nn (.bin 72 false .lss (.t 70) (.t 71))] ⟨[0, 6, 7, 8, 13, 72], [(6, 6), (8, 8), (10386, 10386)]⟩) (.cond (.t 72) (.skip) (.seq (.gc ⟨[0, 6, 7, 8], [(6, 6), (8, 8), (10386, 10386)]⟩) (.exit 2)))) (.seq (.block 3 (.seq (.region [nn (.mv 76 (.t 6)), nn (.mv 77 (.t 13)), nn (.bin 78 false .add (.t 77) (ci 1)), nn (.bslice 79 5 1 []), nn (.mv 80 (.t 0)), nn (.mv 81 (.t 13)), nn (.iaddr 82 (.t 80) (.t 81) 1), nn (.load 83 (.t 82) 1 false), nn (.call 84 (.fn 13) [(.t 83)]), nn (.append 85 (.t 79) (.t 84) 5 1 1), nn (.icall 86 3 (.fn 10) [(.t 76), (.t 78), (.t 85)]), nn (.mv 75 (.t 86)), nn (.ext 87 (.t 75) 0), nn (.ext 88 (.t 75) 1), nn (.mv 14 (.t 87)), nn (.mv 15 (.t 88))] ⟨[0, 6, 7, 8, 13, 14], [(6, 6), (8, 8), (3000006, 14), (10386, 10386)]⟩) (.region [nn (.mv 89 (.t 8)), nn (.mv 90 (.t 14)), nn (.append 91 (.t 89) (.t 90) 30 1 24), nn (.mv 8 (.t 91))] ⟨[0, 6, 7, 8, 13], [(6, 6), (91, 8), (10386, 10386)]⟩))) (.region [nn (.mv 73 (.t 13)), nn (.bin 74 false .add (.t 73) (ci 1)), nn (.mv 13 (.t 74))] ⟨[0, 6, 7, 8, 13], [(6, 6), (8, 8), (10386, 10386)]⟩))
def f4_l2 : ICode := .loop f4_b2
theorem f4_l2_eq (C : Cs) (lo : Nat) (st : St) : E C lo f4_l2 st = seqK (E C lo f4_l2) (E C lo f4_b2 st) := E_loop C lo f4_b2 st
/-- slots [0, 7, 8, 16]; objects [8] -/
def f4_b3 : ICode := .seq (.seq (.region [nn (.mv 108 (.t 16)), nn (.mv 109 (.t 7)), nn (.bin 110 false .lss (.t 108) (.t 109))] ⟨[0, 7, 8, 16, 110], [(8, 8)]⟩) (.cond (.t 110) (.skip) (.seq (.gc ⟨[], []⟩) (.exit 4)))) (.seq (.block 5 (.seq (.draw [nn (.mv 113 (.t 8)), nn (.mv 114 (.t 16)), nn (.iaddr 115 (.t 113) (.t 114) 1), nn (.load 116 (.t 115) 1 false), nn (.b2s 117 (.t 116)), nn (.mv 118 (.t 0)), nn (.mv 119 (.t 16)), nn (.iaddr 120 (.t 118) (.t 119) 1), nn (.load 121 (.t 120) 1 false), nn (.call 122 (.fn 13) [(.t 121)]), nn (.b2s 123 (.t 122)), nn (.bin 124 false .neq (.t 117) (.t 123))] [0, 0, 3, 7, 15, 0, 0, 96, 224, 480, 992, 2047] ⟨[0, 7, 8, 16, 124], [(8, 8)]⟩) (.cond (.t 124) (.seq (.region [nn (.mv 4 (.c (.v (.bool false))))] ⟨[4], []⟩) (.ret)) (.skip)))) (.region [nn (.mv 111 (.t 16)), nn (.bin 112 false .add (.t 111) (ci 1)), nn (.mv 16 (.t 112))] ⟨[0, 7, 8, 16], [(8, 8)]⟩))
def f4_l3 : ICode := .loop f4_b3
theorem f4_l3_eq (C : Cs) (lo : Nat) (st : St) : E C lo f4_l3 st = seqK (E C lo f4_l3) (E C lo f4_b3 st) := E_loop C lo f4_b3 st
/-- tracery/tracerylaw17.ReceiverPairs -/
def f4 : IFn := ⟨.seq (.region [nn (.mv 4 (.c (.v (.bool false))))] ⟨[0, 1], []⟩) (.seq (.region [nn (.call 17 (.fn 8) []), nn (.mv 5 (.t 17))] ⟨[0, 1, 5], []⟩) (.seq (.region [nn (.icall 18 1 (.fn 9) [(ci 20)]), nn (.mv 6 (.t 18))] ⟨[0, 1, 5, 6], [(1000002, 6), (1010130, 10386)]⟩) (.seq (.seq (.region [nn (.mv 19 (.t 5)), nn (.un 20 .not (.t 19)), nn (.mv 21 (.t 20)), ⟨.mv 22 (.t 6), some (21, false)⟩, ⟨.isnil 23 false true (.t 22), some (21, false)⟩, nn (.pick 24 (.t 21) (.c (.v (.bool true))) (.t 23))] ⟨[0, 1, 6, 24], [(6, 6), (10386, 10386)]⟩) (.cond (.t 24) (.seq (.region [nn (.mv 4 (.c (.v (.bool false))))] ⟨[4], []⟩) (.ret)) (.skip))) (.seq (.region [nn (.mv 25 (.t 0)), nn (.len 26 false (.t 25)), nn (.mn 27 [(.t 26), (ci 20)]), nn (.mv 7 (.t 27))] ⟨[0, 1, 6, 7], [(6, 6), (10386, 10386)]⟩) (.seq (.region [nn (.bslice 28 30 1 []), nn (.mv 8 (.t 28))] ⟨[0, 1, 6, 7, 8], [(6, 6), (28, 8), (10386, 10386)]⟩) (.seq (.seq (.region [nn (.mv 9 (ci 0))] ⟨[0, 1, 6, 7, 8, 9], [(6, 6), (8, 8), (10386, 10386)]⟩) (.block 0 (f4_l1))) (.seq (.seq (.region [nn (.mv 13 (ci 0))] ⟨[0, 6, 7, 8, 13], [(6, 6), (8, 8), (10386, 10386)]⟩) (.block 2 (f4_l2))) (.seq (.seq (.region [nn (.mv 92 (.t 8)), nn (.len 93 false (.t 92)), nn (.mv 94 (.t 7)), nn (.bin 95 false .neq (.t 93) (.t 94)), nn (.mv 96 (.t 95)), ⟨.mv 97 (.t 6), some (96, false)⟩, ⟨.call 98 (.fn 12) [(.t 97)], some (96, false)⟩, ⟨.mv 99 (.t 7), some (96, false)⟩, ⟨.bin 100 false .neq (.t 98) (.t 99), some (96, false)⟩, nn (.pick 101 (.t 96) (.c (.v (.bool true))) (.t 100)), nn (.mv 102 (.t 101)), ⟨.mv 103 (.t 6), some (102, false)⟩, ⟨.icall 104 4 (.fn 11) [(.t 103)], some (102, false)⟩, ⟨.len 105 false (.t 104), some (102, false)⟩, ⟨.bin 106 false .neq (.t 105) (ci 0), some (102, false)⟩, nn (.pick 107 (.t 102) (.c (.v (.bool true))) (.t 106))] ⟨[0, 7, 8, 107], [(8, 8)]⟩) (.cond (.t 107) (.seq (.region [nn (.mv 4 (.c (.v (.bool false))))] ⟨[4], []⟩) (.ret)) (.skip))) (.seq (.seq (.region [nn (.mv 16 (ci 0))] ⟨[0, 7, 8, 16], [(8, 8)]⟩) (.block 4 (f4_l3))) (.seq (.region [nn (.mv 4 (.c (.v (.bool true))))] ⟨[4], []⟩) (.ret))))))))))), [.tmp 4]⟩
theorem f4_chk : chk Try.prog 4 [(0, ⟨[0, 1], []⟩), (1, ⟨[0, 1, 5], []⟩), (2, ⟨[0, 1, 5, 6], [(1000002, 6), (1010130, 10386)]⟩), (3, ⟨[0, 1, 6, 24], [(6, 6), (10386, 10386)]⟩), (4, ⟨[4], []⟩), (5, ⟨[0, 1, 6, 7], [(6, 6), (10386, 10386)]⟩), (6, ⟨[0, 1, 6, 7, 8], [(6, 6), (28, 8), (10386, 10386)]⟩), (7, ⟨[0, 1, 6, 7, 8, 9], [(6, 6), (8, 8), (10386, 10386)]⟩), (8, ⟨[0, 1, 6, 7, 8, 9, 40], [(6, 6), (8, 8), (10386, 10386)]⟩), (9, ⟨[0, 1, 6, 7, 8, 9], [(6, 6), (8, 8), (10386, 10386)]⟩), (10, ⟨[0, 1, 6, 7, 8, 9, 10], [(6, 6), (8, 8), (10386, 10386)]⟩), (11, ⟨[0, 1, 6, 7, 8, 9, 10, 50], [(6, 6), (8, 8), (10386, 10386)]⟩), (12, ⟨[0, 1, 6, 7, 8, 9, 10], [(6, 6), (8, 8), (10386, 10386)]⟩), (13, ⟨[0, 1, 6, 7, 8, 9, 11], [(6, 6), (8, 8), (2000006, 11), (10386, 10386)]⟩), (14, ⟨[0, 1, 6, 7, 8, 9], [(6, 6), (69, 8), (10386, 10386)]⟩), (15, ⟨[0, 6, 7, 8, 13], [(6, 6), (8, 8), (10386, 10386)]⟩), (16, ⟨[0, 6, 7, 8, 13, 72], [(6, 6), (8, 8), (10386, 10386)]⟩), (17, ⟨[0, 6, 7, 8, 13], [(6, 6), (8, 8), (10386, 10386)]⟩), (18, ⟨[0, 6, 7, 8, 13, 14], [(6, 6), (8, 8), (3000006, 14), (10386, 10386)]⟩), (19, ⟨[0, 6, 7, 8, 13], [(6, 6), (91, 8), (10386, 10386)]⟩), (20, ⟨[0, 7, 8, 107], [(8, 8)]⟩), (21, ⟨[4], []⟩), (22, ⟨[0, 7, 8, 16], [(8, 8)]⟩), (23, ⟨[0, 7, 8, 16, 110], [(8, 8)]⟩), (24, ⟨[0, 7, 8, 16], [(8, 8)]⟩), (25, ⟨[0, 7, 8, 16, 124], [(8, 8)]⟩), (26, ⟨[4], []⟩), (27, ⟨[4], []⟩), (1000000, ⟨[1000018, 2000064, 3000086, 4000104], []⟩)] [(0, ⟨[0, 6, 7, 8], [(6, 6), (8, 8), (10386, 10386)]⟩), (1, ⟨[0, 1, 6, 7, 8, 9], []⟩), (2, ⟨[0, 6, 7, 8], [(6, 6), (8, 8), (10386, 10386)]⟩), (3, ⟨[0, 6, 7, 8, 13], []⟩), (4, ⟨[], []⟩), (5, ⟨[0, 7, 8, 16], []⟩)] = some f4 := by kernel_rfl
/-- slots [1, 6, 7, 8, 9, 10, 11, 12, 13]; objects [7, 11, 10450] -/
def f5_b2 : ICode := .seq (.seq (.region [nn (.mv 51 (.t 13)), nn (.mv 52 (.t 11)), nn (.len 53 false (.t 52)), nn (.bin 54 false .lss (.t 51) (.t 53))] ⟨[1, 6, 7, 8, 9, 10, 11, 12, 13, 54], [(7, 7), (11, 11), (10450, 10450)]⟩) (.cond (.t 54) (.skip) (.seq (.gc ⟨[1, 6, 7, 8, 9, 10, 11, 12], [(7, 7), (11, 11), (10450, 10450)]⟩) (.exit 2)))) (.seq (.block 3 (.region [nn (.mv 57 (.t 12)), nn (.mv 58 (.t 57)), ⟨.mv 59 (.t 11), some (58, false)⟩, ⟨.mv 60 (.t 13), some (58, false)⟩, ⟨.iaddr 61 (.t 59) (.t 60) 1, some (58, false)⟩, ⟨.load 62 (.t 61) 1 false, some (58, false)⟩, ⟨.mv 63 (.t 9), some (58, false)⟩, ⟨.bin 64 false .eql (.t 62) (.t 63), some (58, false)⟩, nn (.pick 65 (.t 58) (.c (.v (.bool true))) (.t 64)), nn (.mv 12 (.t 65))] ⟨[1, 6, 7, 8, 9, 10, 11, 12, 13], [(7, 7), (11, 11), (10450, 10450)]⟩)) (.region [nn (.mv 55 (.t 13)), nn (.bin 56 false .add (.t 55) (ci 1)), nn (.mv 13 (.t 56))] ⟨[1, 6, 7, 8, 9, 10, 11, 12, 13], [(7, 7), (11, 11), (10450, 10450)]⟩))
def f5_l2 : ICode := .loop f5_b2
theorem f5_l2_eq (C : Cs) (lo : Nat) (st : St) : E C lo f5_l2 st = seqK (E C lo f5_l2) (E C lo f5_b2 st) := E_loop C lo f5_b2 st
/-- slots [1, 6, 7, 8, 18, 19]; objects [7, 18, 10450] -/
def f5_b3 : ICode := .seq (.seq (.region [nn (.mv 115 (.t 19)), nn (.mv 116 (.t 18)), nn (.len 117 false (.t 116)), nn (.bin 118 false .lss (.t 115) (.t 117))] ⟨[1, 6, 7, 8, 18, 19, 118], [(7, 7), (18, 18), (10450, 10450)]⟩) (.cond (.t 118) (.skip) (.seq (.gc ⟨[1, 6, 7, 8], [(7, 7), (10450, 10450)]⟩) (.exit 4)))) (.seq (.block 5 (.seq (.draw [nn (.mv 121 (.t 18)), nn (.mv 122 (.t 19)), nn (.iaddr 123 (.t 121) (.t 122) 1), nn (.load 124 (.t 123) 1 false), nn (.mv 125 (.t 7)), nn (.call 126 (.fn 12) [(.t 125)]), nn (.bin 127 false .add (.t 126) (ci 1)), nn (.bin 128 false .leq (.t 124) (.t 127)), nn (.mv 129 (.t 128)), ⟨.mv 130 (.t 18), some (129, false)⟩, ⟨.mv 131 (.t 19), some (129, false)⟩, ⟨.iaddr 132 (.t 130) (.t 131) 1, some (129, false)⟩, ⟨.load 133 (.t 132) 1 false, some (129, false)⟩, ⟨.mv 134 (.t 7), some (129, false)⟩, ⟨.call 135 (.fn 12) [(.t 134)], some (129, false)⟩, ⟨.mv 136 (.t 6), some (129, false)⟩, ⟨.bin 137 false .add (.t 135) (.t 136), some (129, false)⟩, ⟨.bin 138 false .gtr (.t 133) (.t 137), some (129, false)⟩, nn (.pick 139 (.t 129) (.c (.v (.bool true))) (.t 138))] [0, 0, 3, 7, 0, 16, 48, 127, 255, 511, 511, 2047, 4095, 511, 8703, 511, 57855, 131071, 262143] ⟨[1, 6, 7, 8, 18, 19, 139], [(7, 7), (18, 18), (10450, 10450)]⟩) (.cond (.t 139) (.seq (.region [nn (.mv 4 (.c (.v (.bool false))))] ⟨[4], []⟩) (.ret)) (.skip)))) (.region [nn (.mv 119 (.t 19)), nn (.bin 120 false .add (.t 119) (ci 1)), nn (.mv 19 (.t 120))] ⟨[1, 6, 7, 8, 18, 19], [(7, 7), (18, 18), (10450, 10450)]⟩))
def f5_l3 : ICode := .loop f5_b3
theorem f5_l3_eq (C : Cs) (lo : Nat) (st : St) : E C lo f5_l3 st = seqK (E C lo f5_l3) (E C lo f5_b3 st) := E_loop C lo f5_b3 st
/-- slots [1, 6, 7, 8]; objects [7, 10450] -/
def f5_b1 : ICode := .seq (.seq (.region [nn (.mv 32 (.t 8)), nn (.mv 33 (.t 1)), nn (.len 34 false (.t 33)), nn (.bin 35 false .lss (.t 32) (.t 34)), nn (.mv 36 (.t 35)), ⟨.mv 37 (.t 8), some (36, true)⟩, ⟨.bin 38 false .lss (.t 37) (ci 80), some (36, true)⟩, nn (.pick 39 (.t 36) (.t 38) (.c (.v (.bool false))))] ⟨[1, 6, 7, 8, 39], [(7, 7), (10450, 10450)]⟩) (.cond (.t 39) (.skip) (.seq (.gc ⟨[], []⟩) (.exit 0)))) (.seq (.block 1 (.seq (.region [nn (.mv 42 (.t 1)), nn (.mv 43 (.t 8)), nn (.iaddr 44 (.t 42) (.t 43) 1), nn (.load 45 (.t 44) 1 false), nn (.bin 46 false .rem (.t 45) (ci 40)), nn (.mv 9 (.t 46))] ⟨[1, 6, 7, 8, 9], [(7, 7), (10450, 10450)]⟩) (.seq (.region [nn (.mv 47 (.t 7)), nn (.call 48 (.fn 12) [(.t 47)]), nn (.mv 10 (.t 48))] ⟨[1, 6, 7, 8, 9, 10], [(7, 7), (10450, 10450)]⟩) (.seq (.region [nn (.mv 49 (.t 7)), nn (.icall 50 2 (.fn 11) [(.t 49)]), nn (.mv 11 (.t 50))] ⟨[1, 6, 7, 8, 9, 10, 11], [(7, 7), (2000001, 11), (10450, 10450)]⟩) (.seq (.region [nn (.mv 12 (.c (.v (.bool false))))] ⟨[1, 6, 7, 8, 9, 10, 11, 12], [(7, 7), (11, 11), (10450, 10450)]⟩) (.seq (.seq (.region [nn (.mv 13 (ci 0))] ⟨[1, 6, 7, 8, 9, 10, 11, 12, 13], [(7, 7), (11, 11), (10450, 10450)]⟩) (.block 2 (f5_l2))) (.seq (.region [nn (.mv 66 (.t 9)), nn (.mv 67 (.t 10)), nn (.bin 68 false .gtr (.t 66) (.t 67)), nn (.mv 69 (.t 68)), ⟨.mv 70 (.t 9), some (69, true)⟩, ⟨.mv 71 (.t 10), some (69, true)⟩, ⟨.mv 72 (.t 6), some (69, true)⟩, ⟨.bin 73 false .add (.t 71) (.t 72), some (69, true)⟩, ⟨.bin 74 false .leq (.t 70) (.t 73), some (69, true)⟩, nn (.pick 75 (.t 69) (.t 74) (.c (.v (.bool false)))), nn (.mv 76 (.t 75)), ⟨.mv 77 (.t 12), some (76, true)⟩, ⟨.un 78 .not (.t 77), some (76, true)⟩, nn (.pick 79 (.t 76) (.t 78) (.c (.v (.bool false)))), nn (.mv 14 (.t 79))] ⟨[1, 6, 7, 8, 9, 10, 11, 14], [(7, 7), (11, 11), (10450, 10450)]⟩) (.seq (.region [nn (.mv 81 (.t 7)), nn (.mv 82 (.t 9)), nn (.bslice 83 5 1 [(.c (.v (.int .u8 1)))]), nn (.icall 84 3 (.fn 10) [(.t 81), (.t 82), (.t 83)]), nn (.mv 80 (.t 84)), nn (.ext 85 (.t 80) 0), nn (.ext 86 (.t 80) 1), nn (.mv 15 (.t 85)), nn (.mv 16 (.t 86))] ⟨[1, 6, 7, 8, 10, 11, 14, 16], [(7, 7), (11, 11), (10450, 10450)]⟩) (.seq (.region [nn (.mv 87 (.t 11)), nn (.mv 88 (.t 7)), nn (.icall 89 4 (.fn 11) [(.t 88)]), nn (.call 90 (.fn 14) [(.t 87), (.t 89)]), nn (.mv 17 (.t 90))] ⟨[1, 6, 7, 8, 10, 14, 16, 17], [(7, 7), (10450, 10450)]⟩) (.seq (.seq (.region [nn (.mv 91 (.t 16)), nn (.bin 92 false .eql (.t 91) (ci 0)), nn (.mv 93 (.t 14)), nn (.bin 94 true .neq (.t 92) (.t 93)), nn (.mv 95 (.t 94)), ⟨.mv 96 (.t 14), some (95, false)⟩, ⟨.un 97 .not (.t 96), some (95, false)⟩, ⟨.mv 98 (.t 97), some (95, false)⟩, ⟨.mv 99 (.t 16), some (98, true)⟩, ⟨.bin 100 false .neq (.t 99) (ci 22), some (98, true)⟩, ⟨.mv 101 (.t 100), some (98, true)⟩, ⟨.mv 102 (.t 7), some (101, false)⟩, ⟨.call 103 (.fn 12) [(.t 102)], some (101, false)⟩, ⟨.mv 104 (.t 10), some (101, false)⟩, ⟨.bin 105 false .neq (.t 103) (.t 104), some (101, false)⟩, ⟨.pick 106 (.t 101) (.c (.v (.bool true))) (.t 105), some (98, true)⟩, ⟨.mv 107 (.t 106), some (98, true)⟩, ⟨.mv 108 (.t 17), some (107, false)⟩, ⟨.un 109 .not (.t 108), some (107, false)⟩, ⟨.pick 110 (.t 107) (.c (.v (.bool true))) (.t 109), some (98, true)⟩, ⟨.pick 111 (.t 98) (.t 110) (.c (.v (.bool false))), some (95, false)⟩, nn (.pick 112 (.t 95) (.c (.v (.bool true))) (.t 111))] ⟨[1, 6, 7, 8, 112], [(7, 7), (10450, 10450)]⟩) (.cond (.t 112) (.seq (.region [nn (.mv 4 (.c (.v (.bool false))))] ⟨[4], []⟩) (.ret)) (.skip))) (.seq (.region [nn (.mv 113 (.t 7)), nn (.icall 114 5 (.fn 11) [(.t 113)]), nn (.mv 18 (.t 114))] ⟨[1, 6, 7, 8, 18], [(7, 7), (5000001, 18), (10450, 10450)]⟩) (.seq (.region [nn (.mv 19 (ci 0))] ⟨[1, 6, 7, 8, 18, 19], [(7, 7), (18, 18), (10450, 10450)]⟩) (.block 4 (f5_l3)))))))))))))) (.region [nn (.mv 40 (.t 8)), nn (.bin 41 false .add (.t 40) (ci 1)), nn (.mv 8 (.t 41))] ⟨[1, 6, 7, 8], [(7, 7), (10450, 10450)]⟩))
def f5_l1 : ICode := .loop f5_b1
theorem f5_l1_eq (C : Cs) (lo : Nat) (st : St) : E C lo f5_l1 st = seqK (E C lo f5_l1) (E C lo f5_b1 st) := E_loop C lo f5_b1 st
/-- tracery/tracerylaw17.ReceiverBounds -/
def f5 : IFn := ⟨.seq (.region [nn (.mv 4 (.c (.v (.bool false))))] ⟨[0, 1], []⟩) (.seq (.region [nn (.call 20 (.fn 8) []), nn (.mv 5 (.t 20))] ⟨[0, 1, 5], []⟩) (.seq (.region [nn (.mv 21 (.t 0)), nn (.bin 22 false .and (.t 21) (ci 15)), nn (.bin 23 false .add (ci 1) (.t 22)), nn (.mv 6 (.t 23))] ⟨[1, 5, 6], []⟩) (.seq (.region [nn (.mv 24 (.t 6)), nn (.icall 25 1 (.fn 9) [(.t 24)]), nn (.mv 7 (.t 25))] ⟨[1, 5, 6, 7], [(1000002, 7), (1010130, 10450)]⟩) (.seq (.seq (.region [nn (.mv 26 (.t 5)), nn (.un 27 .not (.t 26)), nn (.mv 28 (.t 27)), ⟨.mv 29 (.t 7), some (28, false)⟩, ⟨.isnil 30 false true (.t 29), some (28, false)⟩, nn (.pick 31 (.t 28) (.c (.v (.bool true))) (.t 30))] ⟨[1, 6, 7, 31], [(7, 7), (10450, 10450)]⟩) (.cond (.t 31) (.seq (.region [nn (.mv 4 (.c (.v (.bool false))))] ⟨[4], []⟩) (.ret)) (.skip))) (.seq (.seq (.region [nn (.mv 8 (ci 0))] ⟨[1, 6, 7, 8], [(7, 7), (10450, 10450)]⟩) (.block 0 (f5_l1))) (.seq (.region [nn (.mv 4 (.c (.v (.bool true))))] ⟨[4], []⟩) (.ret))))))), [.tmp 4]⟩
theorem f5_chk : chk Try.prog 5 [(0, ⟨[0, 1], []⟩), (1, ⟨[0, 1, 5], []⟩), (2, ⟨[1, 5, 6], []⟩), (3, ⟨[1, 5, 6, 7], [(1000002, 7), (1010130, 10450)]⟩), (4, ⟨[1, 6, 7, 31], [(7, 7), (10450, 10450)]⟩), (5, ⟨[4], []⟩), (6, ⟨[1, 6, 7, 8], [(7, 7), (10450, 10450)]⟩), (7, ⟨[1, 6, 7, 8, 39], [(7, 7), (10450, 10450)]⟩), (8, ⟨[1, 6, 7, 8], [(7, 7), (10450, 10450)]⟩), (9, ⟨[1, 6, 7, 8, 9], [(7, 7), (10450, 10450)]⟩), (10, ⟨[1, 6, 7, 8, 9, 10], [(7, 7), (10450, 10450)]⟩), (11, ⟨[1, 6, 7, 8, 9, 10, 11], [(7, 7), (2000001, 11), (10450, 10450)]⟩), (12, ⟨[1, 6, 7, 8, 9, 10, 11, 12], [(7, 7), (11, 11), (10450, 10450)]⟩), (13, ⟨[1, 6, 7, 8, 9, 10, 11, 12, 13], [(7, 7), (11, 11), (10450, 10450)]⟩), (14, ⟨[1, 6, 7, 8, 9, 10, 11, 12, 13, 54], [(7, 7), (11, 11), (10450, 10450)]⟩), (15, ⟨[1, 6, 7, 8, 9, 10, 11, 12, 13], [(7, 7), (11, 11), (10450, 10450)]⟩), (16, ⟨[1, 6, 7, 8, 9, 10, 11, 12, 13], [(7, 7), (11, 11), (10450, 10450)]⟩), (17, ⟨[1, 6, 7, 8, 9, 10, 11, 14], [(7, 7), (11, 11), (10450, 10450)]⟩), (18, ⟨[1, 6, 7, 8, 10, 11, 14, 16], [(7, 7), (11, 11), (10450, 10450)]⟩), (19, ⟨[1, 6, 7, 8, 10, 14, 16, 17], [(7, 7), (10450, 10450)]⟩), (20, ⟨[1, 6, 7, 8, 112], [(7, 7), (10450, 10450)]⟩), (21, ⟨[4], []⟩), (22, ⟨[1, 6, 7, 8, 18], [(7, 7), (5000001, 18), (10450, 10450)]⟩), (23, ⟨[1, 6, 7, 8, 18, 19], [(7, 7), (18, 18), (10450, 10450)]⟩), (24, ⟨[1, 6, 7, 8, 18, 19, 118], [(7, 7), (18, 18), (10450, 10450)]⟩), (25, ⟨[1, 6, 7, 8, 18, 19], [(7, 7), (18, 18), (10450, 10450)]⟩), (26, ⟨[1, 6, 7, 8, 18, 19, 139], [(7, 7), (18, 18), (10450, 10450)]⟩), (27, ⟨[4], []⟩), (28, ⟨[4], []⟩), (1000000, ⟨[1000025, 2000050, 3000084, 4000089, 5000114], []⟩)] [(0, ⟨[], []⟩), (1, ⟨[1, 6, 7, 8], []⟩), (2, ⟨[1, 6, 7, 8, 9, 10, 11, 12], [(7, 7), (11, 11), (10450, 10450)]⟩), (3, ⟨[1, 6, 7, 8, 9, 10, 11, 12, 13], []⟩), (4, ⟨[1, 6, 7, 8], [(7, 7), (10450, 10450)]⟩), (5, ⟨[1, 6, 7, 8, 18, 19], []⟩)] = some f5 := by kernel_rfl
/-- slots [1, 6, 7, 8]; objects [6, 7, 10386] -/
def f6_b1 : ICode := .seq (.seq (.region [nn (.mv 27 (.t 8)), nn (.mv 28 (.t 1)), nn (.len 29 false (.t 28)), nn (.bin 30 false .lss (.t 27) (.t 29)), nn (.mv 31 (.t 30)), ⟨.mv 32 (.t 8), some (31, true)⟩, ⟨.bin 33 false .lss (.t 32) (ci 100), some (31, true)⟩, nn (.pick 34 (.t 31) (.t 33) (.c (.v (.bool false))))] ⟨[1, 6, 7, 8, 34], [(6, 6), (7, 7), (10386, 10386)]⟩) (.cond (.t 34) (.skip) (.seq (.gc ⟨[], []⟩) (.exit 0)))) (.seq (.block 1 (.seq (.seq (.region [nn (.mv 37 (.t 8)), nn (.bin 38 false .rem (.t 37) (ci 9)), nn (.bin 39 false .eql (.t 38) (ci 8))] ⟨[1, 6, 7, 8, 39], [(6, 6), (7, 7), (10386, 10386)]⟩) (.cond (.t 39) (.seq (.region [nn (.mv 40 (.t 6)), nn (.mv 9 (.t 40))] ⟨[1, 6, 7, 8, 9], [(6, 6), (7, 7), (10386, 10386)]⟩) (.seq (.region [nn (.mv 41 (.t 6)), nn (.icall 42 3 (.fn 16) [(.t 41)]), nn (.mv 6 (.t 42))] ⟨[1, 6, 7, 8, 9], [(3000002, 6), (7, 7), (6, 9), (3000001, 10386), (10386, 10578)]⟩) (.seq (.seq (.region [nn (.mv 43 (.t 6)), nn (.isnil 44 false true (.t 43))] ⟨[1, 6, 7, 8, 9, 44], [(6, 6), (7, 7), (9, 9), (10386, 10386), (10578, 10578)]⟩) (.cond (.t 44) (.seq (.region [nn (.mv 4 (.c (.v (.bool false))))] ⟨[4], []⟩) (.ret)) (.skip))) (.region [nn (.mv 45 (.t 9)), nn (.mv 46 (.t 7)), nn (.nchk 47 (.t 46)), nn (.faddr 48 (.t 47) 1), nn (.load 49 (.t 48) 1 false), nn (.bin 50 false .add (.t 49) (ci 1)), nn (.bslice 51 5 1 [(.c (.v (.int .u8 111))), (.c (.v (.int .u8 116))), (.c (.v (.int .u8 104))), (.c (.v (.int .u8 101))), (.c (.v (.int .u8 114)))]), nn (.cvb 52 (.t 51)), nn (.icall 53 4 (.fn 10) [(.t 45), (.t 50), (.t 52)])] ⟨[1, 6, 7, 8], [(6, 6), (7, 7), (10386, 10386)]⟩)))) (.skip))) (.seq (.seq (.region [nn (.mv 54 (.t 1)), nn (.mv 55 (.t 8)), nn (.iaddr 56 (.t 54) (.t 55) 2), nn (.faddr 57 (.t 56) 0), nn (.load 58 (.t 57) 1 false), nn (.bin 59 false .lss (.t 58) (ci (-1000000)))] ⟨[1, 6, 7, 8, 59], [(6, 6), (7, 7), (10386, 10386)]⟩) (.cond (.t 59) (.seq (.gc ⟨[1, 6, 7, 8], [(6, 6), (7, 7), (10386, 10386)]⟩) (.exit 1)) (.skip))) (.seq (.draw [nn (.mv 61 (.t 6)), nn (.mv 62 (.t 1)), nn (.mv 63 (.t 8)), nn (.iaddr 64 (.t 62) (.t 63) 2), nn (.faddr 65 (.t 64) 0), nn (.load 66 (.t 65) 1 false), nn (.bslice 67 5 1 []), nn (.mv 68 (.t 1)), nn (.mv 69 (.t 8)), nn (.iaddr 70 (.t 68) (.t 69) 2), nn (.faddr 71 (.t 70) 1), nn (.load 72 (.t 71) 1 false), nn (.call 73 (.fn 13) [(.t 72)]), nn (.append 74 (.t 67) (.t 73) 5 1 1), nn (.icall 75 5 (.fn 10) [(.t 61), (.t 66), (.t 74)]), nn (.mv 60 (.t 75)), nn (.ext 76 (.t 60) 0), nn (.ext 77 (.t 60) 1), nn (.mv 10 (.t 76)), nn (.mv 11 (.t 77))] [0, 0, 0, 6, 14, 30, 0, 0, 0, 384, 896, 1920, 3968, 8128, 16383, 32767, 65535, 65535, 131071, 524287] ⟨[1, 6, 7, 8, 10, 11], [(6, 6), (7, 7), (5000006, 10), (10386, 10386)]⟩) (.seq (.draw [nn (.mv 79 (.t 7)), nn (.mv 80 (.t 1)), nn (.mv 81 (.t 8)), nn (.iaddr 82 (.t 80) (.t 81) 2), nn (.faddr 83 (.t 82) 0), nn (.load 84 (.t 83) 1 false), nn (.mv 85 (.t 1)), nn (.mv 86 (.t 8)), nn (.iaddr 87 (.t 85) (.t 86) 2), nn (.faddr 88 (.t 87) 1), nn (.load 89 (.t 88) 1 false), nn (.call 90 (.fn 13) [(.t 89)]), nn (.icall 91 6 (.fn 17) [(.t 79), (.t 84), (.t 90)]), nn (.mv 78 (.t 91)), nn (.ext 92 (.t 78) 0), nn (.ext 93 (.t 78) 1), nn (.mv 12 (.t 92)), nn (.mv 13 (.t 93))] [0, 0, 0, 6, 14, 30, 0, 0, 192, 448, 960, 1984, 4095, 8191, 16383, 16383, 32767, 131071] ⟨[1, 6, 7, 8, 10, 11, 12, 13], [(6, 6), (7, 7), (10, 10), (6000006, 12), (10386, 10386)]⟩) (.seq (.region [nn (.mv 94 (.t 10)), nn (.mv 95 (.t 12)), nn (.call 96 (.fn 18) [(.t 94), (.t 95)]), nn (.mv 14 (.t 96))] ⟨[1, 6, 7, 8, 11, 13, 14], [(6, 6), (7, 7), (10386, 10386)]⟩) (.seq (.draws [nn (.mv 97 (.t 6)), nn (.icall 98 7 (.fn 11) [(.t 97)]), nn (.mv 99 (.t 7)), nn (.nchk 100 (.t 99)), nn (.faddr 101 (.t 100) 2), nn (.load 102 (.t 101) 1 false), nn (.call 103 (.fn 19) [(.t 102)]), nn (.call 104 (.fn 14) [(.t 98), (.t 103)]), nn (.mv 15 (.t 104))] [[0, 1, 2, 3, 4, 5, 6, 7, 8], [0, 2, 1, 3, 4, 5, 6, 7, 8], [0, 2, 3, 1, 4, 5, 6, 7, 8], [0, 2, 3, 4, 1, 5, 6, 7, 8], [0, 2, 3, 4, 5, 1, 6, 7, 8], [2, 0, 1, 3, 4, 5, 6, 7, 8], [2, 0, 3, 1, 4, 5, 6, 7, 8], [2, 0, 3, 4, 1, 5, 6, 7, 8], [2, 0, 3, 4, 5, 1, 6, 7, 8], [2, 3, 0, 1, 4, 5, 6, 7, 8], [2, 3, 0, 4, 1, 5, 6, 7, 8], [2, 3, 0, 4, 5, 1, 6, 7, 8], [2, 3, 4, 0, 1, 5, 6, 7, 8], [2, 3, 4, 0, 5, 1, 6, 7, 8], [2, 3, 4, 5, 0, 1, 6, 7, 8]] ⟨[1, 6, 7, 8, 11, 13, 14, 15], [(6, 6), (7, 7), (10386, 10386)]⟩) (.seq (.draw [nn (.mv 105 (.t 14)), nn (.un 106 .not (.t 105)), nn (.mv 107 (.t 106)), ⟨.mv 108 (.t 11), some (107, false)⟩, ⟨.mv 109 (.t 13), some (107, false)⟩, ⟨.bin 110 false .neq (.t 108) (.t 109), some (107, false)⟩, nn (.pick 111 (.t 107) (.c (.v (.bool true))) (.t 110)), nn (.mv 112 (.t 111)), ⟨.mv 113 (.t 6), some (112, false)⟩, ⟨.call 114 (.fn 12) [(.t 113)], some (112, false)⟩, ⟨.mv 115 (.t 7), some (112, false)⟩, ⟨.nchk 116 (.t 115), some (112, false)⟩, ⟨.faddr 117 (.t 116) 1, some (112, false)⟩, ⟨.load 118 (.t 117) 1 false, some (112, false)⟩, ⟨.bin 119 false .neq (.t 114) (.t 118), some (112, false)⟩, nn (.pick 120 (.t 112) (.c (.v (.bool true))) (.t 119)), nn (.mv 121 (.t 120)), ⟨.mv 122 (.t 15), some (121, false)⟩, ⟨.un 123 .not (.t 122), some (121, false)⟩, nn (.pick 124 (.t 121) (.c (.v (.bool true))) (.t 123))] [0, 1, 3, 7, 7, 31, 63, 127, 255, 511, 255, 1279, 3327, 7423, 16383, 32767, 65535, 131071, 262143, 524287] ⟨[1, 6, 7, 8, 124], [(6, 6), (7, 7), (10386, 10386)]⟩) (.cond (.t 124) (.seq (.region [nn (.mv 4 (.c (.v (.bool false))))] ⟨[4], []⟩) (.ret)) (.skip)))))))))) (.region [nn (.mv 35 (.t 8)), nn (.bin 36 false .add (.t 35) (ci 1)), nn (.mv 8 (.t 36))] ⟨[1, 6, 7, 8], [(6, 6), (7, 7), (10386, 10386)]⟩))
def f6_l1 : ICode := .loop f6_b1
theorem f6_l1_eq (C : Cs) (lo : Nat) (st : St) : E C lo f6_l1 st = seqK (E C lo f6_l1) (E C lo f6_b1 st) := E_loop C lo f6_b1 st
/-- tracery/tracerylaw17.ReceiverPlays -/
def f6 : IFn := ⟨.seq (.region [nn (.mv 4 (.c (.v (.bool false))))] ⟨[0, 1], []⟩) (.seq (.region [nn (.call 16 (.fn 8) []), nn (.mv 5 (.t 16))] ⟨[0, 1, 5], []⟩) (.seq (.region [nn (.mv 17 (.t 0)), nn (.icall 18 1 (.fn 9) [(.t 17)]), nn (.mv 6 (.t 18))] ⟨[0, 1, 5, 6], [(1000002, 6), (1010130, 10386)]⟩) (.seq (.region [nn (.mv 19 (.t 0)), nn (.icall 20 2 (.fn 15) [(.t 19)]), nn (.mv 7 (.t 20))] ⟨[1, 5, 6, 7], [(6, 6), (2000002, 7), (10386, 10386)]⟩) (.seq (.seq (.region [nn (.mv 21 (.t 5)), nn (.un 22 .not (.t 21)), nn (.mv 23 (.t 22)), ⟨.mv 24 (.t 6), some (23, false)⟩, ⟨.isnil 25 false true (.t 24), some (23, false)⟩, nn (.pick 26 (.t 23) (.c (.v (.bool true))) (.t 25))] ⟨[1, 6, 7, 26], [(6, 6), (7, 7), (10386, 10386)]⟩) (.cond (.t 26) (.seq (.region [nn (.mv 4 (.c (.v (.bool false))))] ⟨[4], []⟩) (.ret)) (.skip))) (.seq (.seq (.region [nn (.mv 8 (ci 0))] ⟨[1, 6, 7, 8], [(6, 6), (7, 7), (10386, 10386)]⟩) (.block 0 (f6_l1))) (.seq (.region [nn (.mv 4 (.c (.v (.bool true))))] ⟨[4], []⟩) (.ret))))))), [.tmp 4]⟩
theorem f6_chk : chk Try.prog 6 [(0, ⟨[0, 1], []⟩), (1, ⟨[0, 1, 5], []⟩), (2, ⟨[0, 1, 5, 6], [(1000002, 6), (1010130, 10386)]⟩), (3, ⟨[1, 5, 6, 7], [(6, 6), (2000002, 7), (10386, 10386)]⟩), (4, ⟨[1, 6, 7, 26], [(6, 6), (7, 7), (10386, 10386)]⟩), (5, ⟨[4], []⟩), (6, ⟨[1, 6, 7, 8], [(6, 6), (7, 7), (10386, 10386)]⟩), (7, ⟨[1, 6, 7, 8, 34], [(6, 6), (7, 7), (10386, 10386)]⟩), (8, ⟨[1, 6, 7, 8], [(6, 6), (7, 7), (10386, 10386)]⟩), (9, ⟨[1, 6, 7, 8, 39], [(6, 6), (7, 7), (10386, 10386)]⟩), (10, ⟨[1, 6, 7, 8, 9], [(6, 6), (7, 7), (10386, 10386)]⟩), (11, ⟨[1, 6, 7, 8, 9], [(3000002, 6), (7, 7), (6, 9), (3000001, 10386), (10386, 10578)]⟩), (12, ⟨[1, 6, 7, 8, 9, 44], [(6, 6), (7, 7), (9, 9), (10386, 10386), (10578, 10578)]⟩), (13, ⟨[4], []⟩), (14, ⟨[1, 6, 7, 8], [(6, 6), (7, 7), (10386, 10386)]⟩), (15, ⟨[1, 6, 7, 8, 59], [(6, 6), (7, 7), (10386, 10386)]⟩), (16, ⟨[1, 6, 7, 8, 10, 11], [(6, 6), (7, 7), (5000006, 10), (10386, 10386)]⟩), (17, ⟨[1, 6, 7, 8, 10, 11, 12, 13], [(6, 6), (7, 7), (10, 10), (6000006, 12), (10386, 10386)]⟩), (18, ⟨[1, 6, 7, 8, 11, 13, 14], [(6, 6), (7, 7), (10386, 10386)]⟩), (19, ⟨[1, 6, 7, 8, 11, 13, 14, 15], [(6, 6), (7, 7), (10386, 10386)]⟩), (20, ⟨[1, 6, 7, 8, 124], [(6, 6), (7, 7), (10386, 10386)]⟩), (21, ⟨[4], []⟩), (22, ⟨[4], []⟩), (1000000, ⟨[1000018, 2000020, 3000042, 4000053, 5000075, 6000091, 7000098], []⟩)] [(0, ⟨[], []⟩), (1, ⟨[1, 6, 7, 8], [(6, 6), (7, 7), (10386, 10386)]⟩)] = some f6 := by kernel_rfl
/-- slots [0, 1, 6, 7, 8]; objects [6, 7, 10386, 10450] -/
def f7_b1 : ICode := .seq (.seq (.region [nn (.mv 32 (.t 8)), nn (.mv 33 (.t 0)), nn (.len 34 false (.t 33)), nn (.bin 35 false .lss (.t 32) (.t 34)), nn (.mv 36 (.t 35)), ⟨.mv 37 (.t 8), some (36, true)⟩, ⟨.bin 38 false .lss (.t 37) (ci 40), some (36, true)⟩, nn (.pick 39 (.t 36) (.t 38) (.c (.v (.bool false))))] ⟨[0, 1, 6, 7, 8, 39], [(6, 6), (7, 7), (10386, 10386), (10450, 10450)]⟩) (.cond (.t 39) (.skip) (.seq (.gc ⟨[1, 6, 7], [(6, 6), (7, 7), (10386, 10386), (10450, 10450)]⟩) (.exit 0)))) (.seq (.block 1 (.seq (.region [nn (.mv 42 (.t 0)), nn (.mv 43 (.t 8)), nn (.iaddr 44 (.t 42) (.t 43) 1), nn (.load 45 (.t 44) 1 false), nn (.bin 46 false .rem (.t 45) (ci 20)), nn (.mv 9 (.t 46))] ⟨[0, 1, 6, 7, 8, 9], [(6, 6), (7, 7), (10386, 10386), (10450, 10450)]⟩) (.seq (.region [nn (.mv 47 (.t 9)), nn (.conv 48 .u8 (.t 47)), nn (.bslice 49 5 1 [(.t 48)]), nn (.mv 10 (.t 49))] ⟨[0, 1, 6, 7, 8, 9, 10], [(6, 6), (7, 7), (49, 10), (10386, 10386), (10450, 10450)]⟩) (.seq (.region [nn (.mv 50 (.t 6)), nn (.mv 51 (.t 9)), nn (.mv 52 (.t 10)), nn (.icall 53 3 (.fn 10) [(.t 50), (.t 51), (.t 52)])] ⟨[0, 1, 6, 7, 8, 9, 10], [(6, 6), (7, 7), (10, 10), (10386, 10386), (10450, 10450)]⟩) (.seq (.region [nn (.mv 54 (.t 10)), nn (.iaddr 55 (.t 54) (ci 0) 1), nn (.store (.t 55) (.c (.v (.int .u8 99))) 1)] ⟨[0, 1, 6, 7, 8, 9], [(6, 6), (7, 7), (10386, 10386), (10450, 10450)]⟩) (.region [nn (.mv 56 (.t 7)), nn (.mv 57 (.t 9)), nn (.mv 58 (.t 9)), nn (.conv 59 .u8 (.t 58)), nn (.bslice 60 5 1 [(.t 59)]), nn (.icall 61 4 (.fn 10) [(.t 56), (.t 57), (.t 60)])] ⟨[0, 1, 6, 7, 8], [(6, 6), (7, 7), (10386, 10386), (10450, 10450)]⟩)))))) (.region [nn (.mv 40 (.t 8)), nn (.bin 41 false .add (.t 40) (ci 1)), nn (.mv 8 (.t 41))] ⟨[0, 1, 6, 7, 8], [(6, 6), (7, 7), (10386, 10386), (10450, 10450)]⟩))
def f7_l1 : ICode := .loop f7_b1
theorem f7_l1_eq (C : Cs) (lo : Nat) (st : St) : E C lo f7_l1 st = seqK (E C lo f7_l1) (E C lo f7_b1 st) := E_loop C lo f7_b1 st
/-- slots [1, 6, 7, 11, 12]; objects [6, 7, 11, 10386, 10450, 10706] -/
def f7_b2 : ICode := .seq (.seq (.region [nn (.mv 66 (.t 12)), nn (.mv 67 (.t 1)), nn (.len 68 false (.t 67)), nn (.bin 69 false .lss (.t 66) (.t 68)), nn (.mv 70 (.t 69)), ⟨.mv 71 (.t 12), some (70, true)⟩, ⟨.bin 72 false .lss (.t 71) (ci 40), some (70, true)⟩, nn (.pick 73 (.t 70) (.t 72) (.c (.v (.bool false))))] ⟨[1, 6, 7, 11, 12, 73], [(6, 6), (7, 7), (11, 11), (10386, 10386), (10450, 10450), (10706, 10706)]⟩) (.cond (.t 73) (.skip) (.seq (.gc ⟨[6, 7], [(6, 6), (7, 7), (10386, 10386), (10450, 10450)]⟩) (.exit 2)))) (.seq (.block 3 (.region [nn (.mv 76 (.t 11)), nn (.mv 77 (.t 1)), nn (.mv 78 (.t 12)), nn (.iaddr 79 (.t 77) (.t 78) 1), nn (.load 80 (.t 79) 1 false), nn (.bin 81 false .rem (.t 80) (ci 20)), nn (.bslice 82 5 1 [(.c (.v (.int .u8 7)))]), nn (.icall 83 6 (.fn 10) [(.t 76), (.t 81), (.t 82)])] ⟨[1, 6, 7, 11, 12], [(6, 6), (7, 7), (11, 11), (10386, 10386), (10450, 10450), (10706, 10706)]⟩)) (.region [nn (.mv 74 (.t 12)), nn (.bin 75 false .add (.t 74) (ci 1)), nn (.mv 12 (.t 75))] ⟨[1, 6, 7, 11, 12], [(6, 6), (7, 7), (11, 11), (10386, 10386), (10450, 10450), (10706, 10706)]⟩))
def f7_l2 : ICode := .loop f7_b2
theorem f7_l2_eq (C : Cs) (lo : Nat) (st : St) : E C lo f7_l2 st = seqK (E C lo f7_l2) (E C lo f7_b2 st) := E_loop C lo f7_b2 st
/-- slots [6, 7, 13]; objects [6, 7, 10386, 10450] -/
def f7_b3 : ICode := .seq (.seq (.region [nn (.mv 100 (.t 13)), nn (.bin 101 false .lss (.t 100) (ci 20))] ⟨[6, 7, 13, 101], [(6, 6), (7, 7), (10386, 10386), (10450, 10450)]⟩) (.cond (.t 101) (.skip) (.seq (.gc ⟨[6, 7], [(6, 6), (7, 7), (10386, 10386), (10450, 10450)]⟩) (.exit 4)))) (.seq (.block 5 (.seq (.region [nn (.mv 105 (.t 6)), nn (.mv 106 (.t 13)), nn (.mv 107 (.t 13)), nn (.conv 108 .u8 (.t 107)), nn (.bslice 109 5 1 [(.t 108)]), nn (.icall 110 9 (.fn 10) [(.t 105), (.t 106), (.t 109)]), nn (.mv 104 (.t 110)), nn (.ext 111 (.t 104) 0), nn (.ext 112 (.t 104) 1), nn (.mv 14 (.t 111)), nn (.mv 15 (.t 112))] ⟨[6, 7, 13, 14], [(6, 6), (7, 7), (9000006, 14), (10386, 10386), (10450, 10450)]⟩) (.seq (.region [nn (.mv 114 (.t 7)), nn (.mv 115 (.t 13)), nn (.mv 116 (.t 13)), nn (.conv 117 .u8 (.t 116)), nn (.bslice 118 5 1 [(.t 117)]), nn (.icall 119 10 (.fn 10) [(.t 114), (.t 115), (.t 118)]), nn (.mv 113 (.t 119)), nn (.ext 120 (.t 113) 0), nn (.ext 121 (.t 113) 1), nn (.mv 16 (.t 120)), nn (.mv 17 (.t 121))] ⟨[6, 7, 13, 14, 16], [(6, 6), (7, 7), (14, 14), (10000006, 16), (10386, 10386), (10450, 10450)]⟩) (.seq (.region [nn (.mv 122 (.t 14)), nn (.mv 123 (.t 16)), nn (.call 124 (.fn 18) [(.t 122), (.t 123)]), nn (.mv 18 (.t 124))] ⟨[6, 7, 13, 18], [(6, 6), (7, 7), (10386, 10386), (10450, 10450)]⟩) (.seq (.region [nn (.mv 125 (.t 18)), nn (.un 126 .not (.t 125))] ⟨[6, 7, 13, 126], [(6, 6), (7, 7), (10386, 10386), (10450, 10450)]⟩) (.cond (.t 126) (.seq (.region [nn (.mv 4 (.c (.v (.bool false))))] ⟨[4], []⟩) (.ret)) (.skip))))))) (.region [nn (.mv 102 (.t 13)), nn (.bin 103 false .add (.t 102) (ci 1)), nn (.mv 13 (.t 103))] ⟨[6, 7, 13], [(6, 6), (7, 7), (10386, 10386), (10450, 10450)]⟩))
def f7_l3 : ICode := .loop f7_b3
theorem f7_l3_eq (C : Cs) (lo : Nat) (st : St) : E C lo f7_l3 st = seqK (E C lo f7_l3) (E C lo f7_b3 st) := E_loop C lo f7_b3 st
/-- tracery/tracerylaw17.ReceiverCopies -/
def f7 : IFn := ⟨.seq (.region [nn (.mv 4 (.c (.v (.bool false))))] ⟨[0, 1], []⟩) (.seq (.region [nn (.call 19 (.fn 8) []), nn (.mv 5 (.t 19))] ⟨[0, 1, 5], []⟩) (.seq (.region [nn (.icall 20 1 (.fn 9) [(ci 20)]), nn (.mv 6 (.t 20))] ⟨[0, 1, 5, 6], [(1000002, 6), (1010130, 10386)]⟩) (.seq (.region [nn (.icall 21 2 (.fn 9) [(ci 20)]), nn (.mv 7 (.t 21))] ⟨[0, 1, 5, 6, 7], [(6, 6), (2000002, 7), (10386, 10386), (2010130, 10450)]⟩) (.seq (.seq (.region [nn (.mv 22 (.t 5)), nn (.un 23 .not (.t 22)), nn (.mv 24 (.t 23)), ⟨.mv 25 (.t 6), some (24, false)⟩, ⟨.isnil 26 false true (.t 25), some (24, false)⟩, nn (.pick 27 (.t 24) (.c (.v (.bool true))) (.t 26)), nn (.mv 28 (.t 27)), ⟨.mv 29 (.t 7), some (28, false)⟩, ⟨.isnil 30 false true (.t 29), some (28, false)⟩, nn (.pick 31 (.t 28) (.c (.v (.bool true))) (.t 30))] ⟨[0, 1, 6, 7, 31], [(6, 6), (7, 7), (10386, 10386), (10450, 10450)]⟩) (.cond (.t 31) (.seq (.region [nn (.mv 4 (.c (.v (.bool false))))] ⟨[4], []⟩) (.ret)) (.skip))) (.seq (.seq (.region [nn (.mv 8 (ci 0))] ⟨[0, 1, 6, 7, 8], [(6, 6), (7, 7), (10386, 10386), (10450, 10450)]⟩) (.block 0 (f7_l1))) (.seq (.region [nn (.mv 62 (.t 6)), nn (.icall 63 5 (.fn 16) [(.t 62)]), nn (.mv 11 (.t 63))] ⟨[1, 6, 7, 11], [(6, 6), (7, 7), (5000002, 11), (10386, 10386), (10450, 10450), (5000001, 10706)]⟩) (.seq (.seq (.region [nn (.mv 64 (.t 11)), nn (.isnil 65 false true (.t 64))] ⟨[1, 6, 7, 11, 65], [(6, 6), (7, 7), (11, 11), (10386, 10386), (10450, 10450), (10706, 10706)]⟩) (.cond (.t 65) (.seq (.region [nn (.mv 4 (.c (.v (.bool false))))] ⟨[4], []⟩) (.ret)) (.skip))) (.seq (.seq (.region [nn (.mv 12 (ci 0))] ⟨[1, 6, 7, 11, 12], [(6, 6), (7, 7), (11, 11), (10386, 10386), (10450, 10450), (10706, 10706)]⟩) (.block 2 (f7_l2))) (.seq (.seq (.region [nn (.mv 84 (.t 6)), nn (.call 85 (.fn 12) [(.t 84)]), nn (.mv 86 (.t 7)), nn (.call 87 (.fn 12) [(.t 86)]), nn (.bin 88 false .neq (.t 85) (.t 87)), nn (.mv 89 (.t 88)), ⟨.mv 90 (.t 6), some (89, false)⟩, ⟨.icall 91 7 (.fn 11) [(.t 90)], some (89, false)⟩, ⟨.mv 92 (.t 7), some (89, false)⟩, ⟨.icall 93 8 (.fn 11) [(.t 92)], some (89, false)⟩, ⟨.call 94 (.fn 14) [(.t 91), (.t 93)], some (89, false)⟩, ⟨.un 95 .not (.t 94), some (89, false)⟩, nn (.pick 96 (.t 89) (.c (.v (.bool true))) (.t 95))] ⟨[6, 7, 96], [(6, 6), (7, 7), (10386, 10386), (10450, 10450)]⟩) (.cond (.t 96) (.seq (.region [nn (.mv 4 (.c (.v (.bool false))))] ⟨[4], []⟩) (.ret)) (.skip))) (.seq (.seq (.region [nn (.mv 97 (.t 6)), nn (.call 98 (.fn 12) [(.t 97)]), nn (.bin 99 false .add (.t 98) (ci 1)), nn (.mv 13 (.t 99))] ⟨[6, 7, 13], [(6, 6), (7, 7), (10386, 10386), (10450, 10450)]⟩) (.block 4 (f7_l3))) (.seq (.region [nn (.mv 127 (.t 6)), nn (.call 128 (.fn 12) [(.t 127)]), nn (.mv 129 (.t 7)), nn (.call 130 (.fn 12) [(.t 129)]), nn (.bin 131 false .eql (.t 128) (.t 130)), nn (.mv 4 (.t 131))] ⟨[4], []⟩) (.ret)))))))))))), [.tmp 4]⟩
theorem f7_chk : chk Try.prog 7 [(0, ⟨[0, 1], []⟩), (1, ⟨[0, 1, 5], []⟩), (2, ⟨[0, 1, 5, 6], [(1000002, 6), (1010130, 10386)]⟩), (3, ⟨[0, 1, 5, 6, 7], [(6, 6), (2000002, 7), (10386, 10386), (2010130, 10450)]⟩), (4, ⟨[0, 1, 6, 7, 31], [(6, 6), (7, 7), (10386, 10386), (10450, 10450)]⟩), (5, ⟨[4], []⟩), (6, ⟨[0, 1, 6, 7, 8], [(6, 6), (7, 7), (10386, 10386), (10450, 10450)]⟩), (7, ⟨[0, 1, 6, 7, 8, 39], [(6, 6), (7, 7), (10386, 10386), (10450, 10450)]⟩), (8, ⟨[0, 1, 6, 7, 8], [(6, 6), (7, 7), (10386, 10386), (10450, 10450)]⟩), (9, ⟨[0, 1, 6, 7, 8, 9], [(6, 6), (7, 7), (10386, 10386), (10450, 10450)]⟩), (10, ⟨[0, 1, 6, 7, 8, 9, 10], [(6, 6), (7, 7), (49, 10), (10386, 10386), (10450, 10450)]⟩), (11, ⟨[0, 1, 6, 7, 8, 9, 10], [(6, 6), (7, 7), (10, 10), (10386, 10386), (10450, 10450)]⟩), (12, ⟨[0, 1, 6, 7, 8, 9], [(6, 6), (7, 7), (10386, 10386), (10450, 10450)]⟩), (13, ⟨[0, 1, 6, 7, 8], [(6, 6), (7, 7), (10386, 10386), (10450, 10450)]⟩), (14, ⟨[1, 6, 7, 11], [(6, 6), (7, 7), (5000002, 11), (10386, 10386), (10450, 10450), (5000001, 10706)]⟩), (15, ⟨[1, 6, 7, 11, 65], [(6, 6), (7, 7), (11, 11), (10386, 10386), (10450, 10450), (10706, 10706)]⟩), (16, ⟨[4], []⟩), (17, ⟨[1, 6, 7, 11, 12], [(6, 6), (7, 7), (11, 11), (10386, 10386), (10450, 10450), (10706, 10706)]⟩), (18, ⟨[1, 6, 7, 11, 12, 73], [(6, 6), (7, 7), (11, 11), (10386, 10386), (10450, 10450), (10706, 10706)]⟩), (19, ⟨[1, 6, 7, 11, 12], [(6, 6), (7, 7), (11, 11), (10386, 10386), (10450, 10450), (10706, 10706)]⟩), (20, ⟨[1, 6, 7, 11, 12], [(6, 6), (7, 7), (11, 11), (10386, 10386), (10450, 10450), (10706, 10706)]⟩), (21, ⟨[6, 7, 96], [(6, 6), (7, 7), (10386, 10386), (10450, 10450)]⟩), (22, ⟨[4], []⟩), (23, ⟨[6, 7, 13], [(6, 6), (7, 7), (10386, 10386), (10450, 10450)]⟩), (24, ⟨[6, 7, 13, 101], [(6, 6), (7, 7), (10386, 10386), (10450, 10450)]⟩), (25, ⟨[6, 7, 13], [(6, 6), (7, 7), (10386, 10386), (10450, 10450)]⟩), (26, ⟨[6, 7, 13, 14], [(6, 6), (7, 7), (9000006, 14), (10386, 10386), (10450, 10450)]⟩), (27, ⟨[6, 7, 13, 14, 16], [(6, 6), (7, 7), (14, 14), (10000006, 16), (10386, 10386), (10450, 10450)]⟩), (28, ⟨[6, 7, 13, 18], [(6, 6), (7, 7), (10386, 10386), (10450, 10450)]⟩), (29, ⟨[6, 7, 13, 126], [(6, 6), (7, 7), (10386, 10386), (10450, 10450)]⟩), (30, ⟨[4], []⟩), (31, ⟨[4], []⟩), (1000000, ⟨[1000020, 2000021, 3000053, 4000061, 5000063, 6000083, 7000091, 8000093, 9000110, 10000119], []⟩)] [(0, ⟨[1, 6, 7], [(6, 6), (7, 7), (10386, 10386), (10450, 10450)]⟩), (1, ⟨[0, 1, 6, 7, 8], []⟩), (2, ⟨[6, 7], [(6, 6), (7, 7), (10386, 10386), (10450, 10450)]⟩), (3, ⟨[1, 6, 7, 11, 12], []⟩), (4, ⟨[6, 7], [(6, 6), (7, 7), (10386, 10386), (10450, 10450)]⟩), (5, ⟨[6, 7, 13], []⟩)] = some f7 := by kernel_rfl
/-- tracery/tracerylaw17.shown -/
def f8 : IFn := ⟨.seq (.region [nn (.mv 0 (.c (.v (.bool false))))] ⟨[], []⟩) (.seq (.region [nn (.icall 8 1 (.fn 9) [(ci 4)]), nn (.mv 1 (.t 8))] ⟨[1], [(1000002, 1), (1010130, 10066)]⟩) (.seq (.seq (.region [nn (.mv 9 (.t 1)), nn (.isnil 10 false true (.t 9))] ⟨[1, 10], [(1, 1), (10066, 10066)]⟩) (.cond (.t 10) (.seq (.region [nn (.mv 0 (.c (.v (.bool false))))] ⟨[0], []⟩) (.ret)) (.skip))) (.seq (.region [nn (.mv 12 (.t 1)), nn (.bslice 13 5 1 [(.c (.v (.int .u8 98)))]), nn (.cvb 14 (.t 13)), nn (.icall 15 2 (.fn 10) [(.t 12), (ci 2), (.t 14)]), nn (.mv 11 (.t 15)), nn (.ext 16 (.t 11) 0), nn (.ext 17 (.t 11) 1), nn (.mv 2 (.t 16)), nn (.mv 3 (.t 17))] ⟨[1, 2, 3], [(1, 1), (2000006, 2), (10066, 10066)]⟩) (.seq (.region [nn (.mv 19 (.t 1)), nn (.bslice 20 5 1 [(.c (.v (.int .u8 98)))]), nn (.cvb 21 (.t 20)), nn (.icall 22 3 (.fn 10) [(.t 19), (ci 2), (.t 21)]), nn (.mv 18 (.t 22)), nn (.ext 23 (.t 18) 0), nn (.ext 24 (.t 18) 1), nn (.mv 4 (.t 23)), nn (.mv 5 (.t 24))] ⟨[1, 2, 3, 5], [(1, 1), (2, 2), (10066, 10066)]⟩) (.seq (.region [nn (.mv 26 (.t 1)), nn (.bslice 27 5 1 [(.c (.v (.int .u8 97)))]), nn (.cvb 28 (.t 27)), nn (.icall 29 4 (.fn 10) [(.t 26), (ci 1), (.t 28)]), nn (.mv 25 (.t 29)), nn (.ext 30 (.t 25) 0), nn (.ext 31 (.t 25) 1), nn (.mv 6 (.t 30)), nn (.mv 7 (.t 31))] ⟨[1, 2, 3, 5, 6, 7], [(1, 1), (2, 2), (4000006, 6), (10066, 10066)]⟩) (.seq (.region [nn (.mv 32 (.t 2)), nn (.len 33 false (.t 32)), nn (.bin 34 false .eql (.t 33) (ci 0)), nn (.mv 35 (.t 34)), ⟨.mv 36 (.t 3), some (35, true)⟩, ⟨.bin 37 false .eql (.t 36) (ci 0), some (35, true)⟩, nn (.pick 38 (.t 35) (.t 37) (.c (.v (.bool false)))), nn (.mv 39 (.t 38)), ⟨.mv 40 (.t 5), some (39, true)⟩, ⟨.bin 41 false .eql (.t 40) (ci 22), some (39, true)⟩, nn (.pick 42 (.t 39) (.t 41) (.c (.v (.bool false)))), nn (.mv 43 (.t 42)), ⟨.mv 44 (.t 6), some (43, true)⟩, ⟨.len 45 false (.t 44), some (43, true)⟩, ⟨.bin 46 false .eql (.t 45) (ci 2), some (43, true)⟩, nn (.pick 47 (.t 43) (.t 46) (.c (.v (.bool false)))), nn (.mv 48 (.t 47)), ⟨.mv 49 (.t 6), some (48, true)⟩, ⟨.iaddr 50 (.t 49) (ci 0) 1, some (48, true)⟩, ⟨.load 51 (.t 50) 1 false, some (48, true)⟩, ⟨.b2s 52 (.t 51), some (48, true)⟩, ⟨.bin 53 false .eql (.t 52) (.c (.v (.str ⟨#[97]⟩))), some (48, true)⟩, nn (.pick 54 (.t 48) (.t 53) (.c (.v (.bool false)))), nn (.mv 55 (.t 54)), ⟨.mv 56 (.t 6), some (55, true)⟩, ⟨.iaddr 57 (.t 56) (ci 1) 1, some (55, true)⟩, ⟨.load 58 (.t 57) 1 false, some (55, true)⟩, ⟨.b2s 59 (.t 58), some (55, true)⟩, ⟨.bin 60 false .eql (.t 59) (.c (.v (.str ⟨#[98]⟩))), some (55, true)⟩, nn (.pick 61 (.t 55) (.t 60) (.c (.v (.bool false)))), nn (.mv 62 (.t 61)), ⟨.mv 63 (.t 7), some (62, true)⟩, ⟨.bin 64 false .eql (.t 63) (ci 0), some (62, true)⟩, nn (.pick 65 (.t 62) (.t 64) (.c (.v (.bool false)))), nn (.mv 66 (.t 65)), ⟨.mv 67 (.t 1), some (66, true)⟩, ⟨.call 68 (.fn 12) [(.t 67)], some (66, true)⟩, ⟨.bin 69 false .eql (.t 68) (ci 2), some (66, true)⟩, nn (.pick 70 (.t 66) (.t 69) (.c (.v (.bool false)))), nn (.mv 0 (.t 70))] ⟨[0], []⟩) (.ret))))))), [.tmp 0]⟩
theorem f8_chk : chk Try.prog 8 [(0, ⟨[], []⟩), (1, ⟨[1], [(1000002, 1), (1010130, 10066)]⟩), (2, ⟨[1, 10], [(1, 1), (10066, 10066)]⟩), (3, ⟨[0], []⟩), (4, ⟨[1, 2, 3], [(1, 1), (2000006, 2), (10066, 10066)]⟩), (5, ⟨[1, 2, 3, 5], [(1, 1), (2, 2), (10066, 10066)]⟩), (6, ⟨[1, 2, 3, 5, 6, 7], [(1, 1), (2, 2), (4000006, 6), (10066, 10066)]⟩), (7, ⟨[0], []⟩), (1000000, ⟨[1000008, 2000015, 3000022, 4000029], []⟩)] [] = some f8 := by kernel_rfl
/-- tracery/receiver.New -/
def f9 : IFn := ⟨.seq (.region [nn (.mv 2 (.c .u))] ⟨[0], []⟩) (.seq (.region [nn (.mv 3 (.t 0)), nn (.mx 4 [(.t 3), (ci 1)]), nn (.mn 5 [(.t 4), (ci 64)]), nn (.mkmap 6 false false), nn (.build 7 [(.v (.int .i64 0)), (.v (.int .i64 0)), .u] [(0, 1, (.t 5)), (2, 1, (.t 6))]), nn (.box 8 (.t 7) 3), nn (.mv 2 (.t 8))] ⟨[2], [(8, 2), (6, 10130)]⟩) (.ret)), [.tmp 2]⟩
theorem f9_chk : chk Try.prog 9 [(0, ⟨[0], []⟩), (1, ⟨[2], [(8, 2), (6, 10130)]⟩)] [] = some f9 := by kernel_rfl
/-- slots [0, 10]; objects [10, 900000, 900001, 900002, 900003, 900004, 900005, 900006, 900007, 910000, 910001, 910002, 910003, 910004, 910005, 910006, 910007, 910064, 910065, 910066, 910067, 910068, 910069, 910070, 910071, 910128, 910129, 910130, 910131, 910132, 910133, 910134, 910135, 910192, 910193, 910194, 910195, 910196, 910197, 910198, 910199, 910256, 910257, 910258, 910259, 910260, 910261, 910262, 910263, 910320, 910321, 910322, 910323, 910324, 910325, 910326, 910327, 910384, 910385, 910386, 910387, 910388, 910389, 910390, 910391, 910448, 910449, 910450, 910451, 910452, 910453, 910454, 910455] -/
def f10_b1 : ICode := .block 1 (.seq (.draw [nn (.mv 52 (.t 0)), nn (.nchk 53 (.t 52)), nn (.faddr 54 (.t 53) 2), nn (.load 55 (.t 54) 1 false), nn (.mv 56 (.t 0)), nn (.nchk 57 (.t 56)), nn (.faddr 58 (.t 57) 1), nn (.load 59 (.t 58) 1 false), nn (.bin 60 false .add (.t 59) (ci 1)), nn (.mget 61 [.i] false false [(.sl (.tight 5) 1 [])] true (.t 55) (.t 60)), nn (.mv 51 (.t 61)), nn (.ext 62 (.t 51) 0), nn (.ext 63 (.t 51) 1), nn (.mv 11 (.t 62)), nn (.mv 12 (.t 63))] [0, 1, 3, 7, 0, 16, 48, 112, 240, 511, 1023, 2047, 2047, 4095, 16383] ⟨[0, 10, 11, 12], [(10, 10)]⟩) (.seq (.seq (.region [nn (.mv 64 (.t 12)), nn (.un 65 .not (.t 64))] ⟨[0, 10, 11, 65], [(10, 10)]⟩) (.cond (.t 65) (.seq (.region [nn (.mv 66 (.t 10)), nn (.mv 6 (.t 66)), nn (.mv 7 (ci 0))] ⟨[6, 7], [(10, 6)]⟩) (.ret)) (.skip))) (.seq (.region [nn (.mv 67 (.t 0)), nn (.nchk 68 (.t 67)), nn (.faddr 69 (.t 68) 1), nn (.load 70 (.t 69) 1 false), nn (.bin 71 false .add (.t 70) (ci 1)), nn (.nchk 72 (.t 67)), nn (.faddr 73 (.t 72) 1), nn (.store (.t 73) (.t 71) 1)] ⟨[0, 10, 11], [(10, 10)]⟩) (.seq (.draw [nn (.mv 74 (.t 0)), nn (.nchk 75 (.t 74)), nn (.faddr 76 (.t 75) 2), nn (.load 77 (.t 76) 1 false), nn (.mv 78 (.t 0)), nn (.nchk 79 (.t 78)), nn (.faddr 80 (.t 79) 1), nn (.load 81 (.t 80) 1 false), nn (.mdel [.i] false (.t 77) (.t 81))] [0, 1, 3, 7, 0, 16, 48, 112, 255] ⟨[0, 10, 11], [(10, 10)]⟩) (.region [nn (.mv 82 (.t 10)), nn (.mv 83 (.t 11)), nn (.bslice 84 30 1 [(.t 83)]), nn (.append 85 (.t 82) (.t 84) 30 1 24), nn (.mv 10 (.t 85))] ⟨[0, 10], [(85, 10)]⟩)))))
def f10_l1 : ICode := .loop f10_b1
theorem f10_l1_eq (C : Cs) (lo : Nat) (st : St) : E C lo f10_l1 st = seqK (E C lo f10_l1) (E C lo f10_b1 st) := E_loop C lo f10_b1 st
/-- (*tracery/receiver.Receiver).Take -/
def f10 : IFn := ⟨.seq (.region [nn (.mv 6 (.c (.v (.sl (.tight 30) 1 [])))), nn (.mv 7 (ci 0))] ⟨[0, 1, 2], []⟩) (.seq (.region [nn (.mv 14 (.t 0)), nn (.nchk 15 (.t 14)), nn (.faddr 16 (.t 15) 2), nn (.load 17 (.t 16) 1 false), nn (.mv 18 (.t 1)), nn (.mget 19 [.i] false false [(.sl (.tight 5) 1 [])] true (.t 17) (.t 18)), nn (.mv 13 (.t 19)), nn (.ext 20 (.t 13) 0), nn (.ext 21 (.t 13) 1), nn (.mv 8 (.t 20)), nn (.mv 9 (.t 21))] ⟨[0, 1, 2, 9], []⟩) (.seq (.seq (.draw [nn (.mv 22 (.t 9)), nn (.mv 23 (.t 22)), ⟨.mv 24 (.t 1), some (23, false)⟩, ⟨.mv 25 (.t 0), some (23, false)⟩, ⟨.nchk 26 (.t 25), some (23, false)⟩, ⟨.faddr 27 (.t 26) 1, some (23, false)⟩, ⟨.load 28 (.t 27) 1 false, some (23, false)⟩, ⟨.bin 29 false .leq (.t 24) (.t 28), some (23, false)⟩, nn (.pick 30 (.t 23) (.c (.v (.bool true))) (.t 29)), nn (.mv 31 (.t 30)), ⟨.mv 32 (.t 1), some (31, false)⟩, ⟨.mv 33 (.t 0), some (31, false)⟩, ⟨.nchk 34 (.t 33), some (31, false)⟩, ⟨.faddr 35 (.t 34) 1, some (31, false)⟩, ⟨.load 36 (.t 35) 1 false, some (31, false)⟩, ⟨.mv 37 (.t 0), some (31, false)⟩, ⟨.nchk 38 (.t 37), some (31, false)⟩, ⟨.faddr 39 (.t 38) 0, some (31, false)⟩, ⟨.load 40 (.t 39) 1 false, some (31, false)⟩, ⟨.bin 41 false .add (.t 36) (.t 40), some (31, false)⟩, ⟨.bin 42 false .gtr (.t 32) (.t 41), some (31, false)⟩, nn (.pick 43 (.t 31) (.c (.v (.bool true))) (.t 42))] [0, 1, 3, 3, 11, 27, 59, 127, 255, 511, 1023, 1023, 3071, 7167, 15359, 1023, 33791, 99327, 230399, 523263, 1048575, 2097151] ⟨[0, 1, 2, 43], []⟩) (.cond (.t 43) (.seq (.region [nn (.mv 6 (.c (.v (.sl (.tight 30) 1 [])))), nn (.mv 7 (ci 22))] ⟨[6, 7], []⟩) (.ret)) (.skip))) (.seq (.draw [nn (.mv 44 (.t 0)), nn (.nchk 45 (.t 44)), nn (.faddr 46 (.t 45) 2), nn (.load 47 (.t 46) 1 false), nn (.mv 48 (.t 1)), nn (.mv 49 (.t 2)), nn (.icall 50 0 (.fn 20) [(.t 49)]), nn (.mupd [.i] false false 1 (.t 47) (.t 48) (.t 50))] [0, 1, 3, 7, 0, 0, 32, 127] ⟨[0], []⟩) (.seq (.region [nn (.mv 10 (.c (.v (.sl (.tight 30) 1 []))))] ⟨[0, 10], []⟩) (.block 0 (f10_l1)))))), [.tmp 6, .tmp 7]⟩
theorem f10_chk : chk Try.prog 10 [(0, ⟨[0, 1, 2], []⟩), (1, ⟨[0, 1, 2, 9], []⟩), (2, ⟨[0, 1, 2, 43], []⟩), (3, ⟨[6, 7], []⟩), (4, ⟨[0], []⟩), (5, ⟨[0, 10], []⟩), (6, ⟨[0, 10, 11, 12], [(10, 10)]⟩), (7, ⟨[0, 10, 11, 65], [(10, 10)]⟩), (8, ⟨[6, 7], [(10, 6)]⟩), (9, ⟨[0, 10, 11], [(10, 10)]⟩), (10, ⟨[0, 10, 11], [(10, 10)]⟩), (11, ⟨[0, 10], [(85, 10)]⟩), (1000000, ⟨[50], []⟩)] [(0, ⟨[6, 7], []⟩), (1, ⟨[0, 10], []⟩)] = some f10 := by kernel_rfl
/-- (*tracery/receiver.Receiver).Got -/
def f12 : IFn := ⟨.seq (.region [nn (.mv 2 (ci 0))] ⟨[0], []⟩) (.seq (.region [nn (.mv 3 (.t 0)), nn (.nchk 4 (.t 3)), nn (.faddr 5 (.t 4) 1), nn (.load 6 (.t 5) 1 false), nn (.mv 2 (.t 6))] ⟨[2], []⟩) (.ret)), [.tmp 2]⟩
theorem f12_chk : chk Try.prog 12 [(0, ⟨[0], []⟩), (1, ⟨[2], []⟩)] [] = some f12 := by kernel_rfl
/-- tracery/tracerylaw17.short -/
def f13 : IFn := ⟨.seq (.region [nn (.mv 2 (.c (.v (.sl (.tight 5) 1 []))))] ⟨[0], []⟩) (.seq (.seq (.region [nn (.mv 3 (.t 0)), nn (.len 4 false (.t 3)), nn (.bin 5 false .gtr (.t 4) (ci 60))] ⟨[0, 5], []⟩) (.cond (.t 5) (.seq (.region [nn (.mv 6 (.t 0)), nn (.slice 7 (.t 6) none (some (ci 60)) none 5 1), nn (.mv 2 (.t 7))] ⟨[2], []⟩) (.ret)) (.skip))) (.seq (.region [nn (.mv 8 (.t 0)), nn (.mv 2 (.t 8))] ⟨[2], []⟩) (.ret))), [.tmp 2]⟩
theorem f13_chk : chk Try.prog 13 [(0, ⟨[0], []⟩), (1, ⟨[0, 5], []⟩), (2, ⟨[2], []⟩), (3, ⟨[2], []⟩)] [] = some f13 := by kernel_rfl
/-- slots [0, 1, 5]; objects [] -/
def f14_b1 : ICode := .seq (.seq (.region [nn (.mv 11 (.t 5)), nn (.mv 12 (.t 0)), nn (.len 13 false (.t 12)), nn (.bin 14 false .lss (.t 11) (.t 13))] ⟨[0, 1, 5, 14], []⟩) (.cond (.t 14) (.skip) (.seq (.gc ⟨[], []⟩) (.exit 0)))) (.seq (.block 1 (.seq (.draw [nn (.mv 17 (.t 0)), nn (.mv 18 (.t 5)), nn (.iaddr 19 (.t 17) (.t 18) 1), nn (.load 20 (.t 19) 1 false), nn (.mv 21 (.t 1)), nn (.mv 22 (.t 5)), nn (.iaddr 23 (.t 21) (.t 22) 1), nn (.load 24 (.t 23) 1 false), nn (.bin 25 false .neq (.t 20) (.t 24))] [0, 0, 3, 7, 0, 0, 48, 112, 255] ⟨[0, 1, 5, 25], []⟩) (.cond (.t 25) (.seq (.region [nn (.mv 4 (.c (.v (.bool false))))] ⟨[4], []⟩) (.ret)) (.skip)))) (.region [nn (.mv 15 (.t 5)), nn (.bin 16 false .add (.t 15) (ci 1)), nn (.mv 5 (.t 16))] ⟨[0, 1, 5], []⟩))
def f14_l1 : ICode := .loop f14_b1
theorem f14_l1_eq (C : Cs) (lo : Nat) (st : St) : E C lo f14_l1 st = seqK (E C lo f14_l1) (E C lo f14_b1 st) := E_loop C lo f14_b1 st
/-- tracery/traceryref02.Ints -/
def f14 : IFn := ⟨.seq (.region [nn (.mv 4 (.c (.v (.bool false))))] ⟨[0, 1], []⟩) (.seq (.seq (.region [nn (.mv 6 (.t 0)), nn (.len 7 false (.t 6)), nn (.mv 8 (.t 1)), nn (.len 9 false (.t 8)), nn (.bin 10 false .neq (.t 7) (.t 9))] ⟨[0, 1, 10], []⟩) (.cond (.t 10) (.seq (.region [nn (.mv 4 (.c (.v (.bool false))))] ⟨[4], []⟩) (.ret)) (.skip))) (.seq (.seq (.region [nn (.mv 5 (ci 0))] ⟨[0, 1, 5], []⟩) (.block 0 (f14_l1))) (.seq (.region [nn (.mv 4 (.c (.v (.bool true))))] ⟨[4], []⟩) (.ret)))), [.tmp 4]⟩
theorem f14_chk : chk Try.prog 14 [(0, ⟨[0, 1], []⟩), (1, ⟨[0, 1, 10], []⟩), (2, ⟨[4], []⟩), (3, ⟨[0, 1, 5], []⟩), (4, ⟨[0, 1, 5, 14], []⟩), (5, ⟨[0, 1, 5], []⟩), (6, ⟨[0, 1, 5, 25], []⟩), (7, ⟨[4], []⟩), (8, ⟨[4], []⟩)] [(0, ⟨[], []⟩), (1, ⟨[0, 1, 5], []⟩)] = some f14 := by kernel_rfl
/-- tracery/traceryref17.New -/
def f15 : IFn := ⟨.seq (.region [nn (.mv 2 (.c .u))] ⟨[0], []⟩) (.seq (.region [nn (.mv 3 (.t 0)), nn (.mx 4 [(.t 3), (ci 1)]), nn (.mn 5 [(.t 4), (ci 64)]), nn (.build 6 [(.v (.int .i64 0)), (.v (.int .i64 0)), (.v (.sl (.tight 58) 2 []))] [(0, 1, (.t 5))]), nn (.box 7 (.t 6) 3), nn (.mv 2 (.t 7))] ⟨[2], [(7, 2)]⟩) (.ret)), [.tmp 2]⟩
theorem f15_chk : chk Try.prog 15 [(0, ⟨[0], []⟩), (1, ⟨[2], [(7, 2)]⟩)] [] = some f15 := by kernel_rfl
/-- slots [0, 1, 2, 8, 9, 10]; objects [8, 900000, 900001, 900002, 900003, 900004, 900005, 900006, 900007, 910000, 910001, 910002, 910003, 910004, 910005, 910006, 910007, 910064, 910065, 910066, 910067, 910068, 910069, 910070, 910071, 910128, 910129, 910130, 910131, 910132, 910133, 910134, 910135, 910192, 910193, 910194, 910195, 910196, 910197, 910198, 910199, 910256, 910257, 910258, 910259, 910260, 910261, 910262, 910263, 910320, 910321, 910322, 910323, 910324, 910325, 910326, 910327, 910384, 910385, 910386, 910387, 910388, 910389, 910390, 910391, 910448, 910449, 910450, 910451, 910452, 910453, 910454, 910455] -/
def f17_b1 : ICode := .seq (.seq (.region [nn (.mv 32 (.t 10)), nn (.mv 33 (.t 0)), nn (.nchk 34 (.t 33)), nn (.faddr 35 (.t 34) 2), nn (.load 36 (.t 35) 1 false), nn (.len 37 false (.t 36)), nn (.bin 38 false .lss (.t 32) (.t 37))] ⟨[0, 1, 2, 8, 9, 10, 38], [(8, 8)]⟩) (.cond (.t 38) (.skip) (.seq (.gc ⟨[0, 1, 2, 8, 9], [(8, 8)]⟩) (.exit 0)))) (.seq (.block 1 (.seq (.seq (.region [nn (.mv 41 (.t 0)), nn (.nchk 42 (.t 41)), nn (.faddr 43 (.t 42) 2), nn (.load 44 (.t 43) 1 false), nn (.mv 45 (.t 10)), nn (.iaddr 46 (.t 44) (.t 45) 2), nn (.faddr 47 (.t 46) 0), nn (.load 48 (.t 47) 1 false), nn (.mv 49 (.t 1)), nn (.bin 50 false .eql (.t 48) (.t 49))] ⟨[0, 1, 2, 8, 9, 10, 50], [(8, 8)]⟩) (.cond (.t 50) (.seq (.region [nn (.mv 6 (.c (.v (.sl (.tight 30) 1 [])))), nn (.mv 7 (ci 22))] ⟨[6, 7], []⟩) (.ret)) (.skip))) (.seq (.seq (.region [nn (.mv 51 (.t 9)), nn (.un 52 .not (.t 51)), nn (.mv 53 (.t 52)), ⟨.mv 54 (.t 1), some (53, true)⟩, ⟨.mv 55 (.t 0), some (53, true)⟩, ⟨.nchk 56 (.t 55), some (53, true)⟩, ⟨.faddr 57 (.t 56) 2, some (53, true)⟩, ⟨.load 58 (.t 57) 1 false, some (53, true)⟩, ⟨.mv 59 (.t 10), some (53, true)⟩, ⟨.iaddr 60 (.t 58) (.t 59) 2, some (53, true)⟩, ⟨.faddr 61 (.t 60) 0, some (53, true)⟩, ⟨.load 62 (.t 61) 1 false, some (53, true)⟩, ⟨.bin 63 false .lss (.t 54) (.t 62), some (53, true)⟩, nn (.pick 64 (.t 53) (.t 63) (.c (.v (.bool false))))] ⟨[0, 1, 2, 8, 9, 10, 64], [(8, 8)]⟩) (.cond (.t 64) (.seq (.region [nn (.mv 65 (.t 8)), nn (.mv 66 (.t 1)), nn (.bslice 67 5 1 []), nn (.mv 68 (.t 2)), nn (.append 69 (.t 67) (.t 68) 5 1 1), nn (.build 70 [(.v (.int .i64 0)), (.v (.sl (.tight 5) 1 []))] [(0, 1, (.t 66)), (1, 1, (.t 69))]), nn (.bslice 71 58 2 [(.t 70)]), nn (.append 72 (.t 65) (.t 71) 58 2 32), nn (.mv 8 (.t 72))] ⟨[0, 1, 2, 8, 10], [(72, 8)]⟩) (.region [nn (.mv 9 (.c (.v (.bool true))))] ⟨[0, 1, 2, 8, 9, 10], [(8, 8)]⟩)) (.skip))) (.region [nn (.mv 73 (.t 8)), nn (.mv 74 (.t 0)), nn (.nchk 75 (.t 74)), nn (.faddr 76 (.t 75) 2), nn (.load 77 (.t 76) 1 false), nn (.mv 78 (.t 10)), nn (.iaddr 79 (.t 77) (.t 78) 2), nn (.load 80 (.t 79) 2 true), nn (.bslice 81 58 2 [(.t 80)]), nn (.append 82 (.t 73) (.t 81) 58 2 32), nn (.mv 8 (.t 82))] ⟨[0, 1, 2, 8, 9, 10], [(82, 8)]⟩)))) (.region [nn (.mv 39 (.t 10)), nn (.bin 40 false .add (.t 39) (ci 1)), nn (.mv 10 (.t 40))] ⟨[0, 1, 2, 8, 9, 10], [(8, 8)]⟩))
def f17_l1 : ICode := .loop f17_b1
theorem f17_l1_eq (C : Cs) (lo : Nat) (st : St) : E C lo f17_l1 st = seqK (E C lo f17_l1) (E C lo f17_b1 st) := E_loop C lo f17_b1 st
/-- slots [0, 8, 11]; objects [8, 11, 900000, 900001, 900002, 900003, 900004, 900005, 900006, 900007, 910000, 910001, 910002, 910003, 910004, 910005, 910006, 910007, 910064, 910065, 910066, 910067, 910068, 910069, 910070, 910071, 910128, 910129, 910130, 910131, 910132, 910133, 910134, 910135, 910192, 910193, 910194, 910195, 910196, 910197, 910198, 910199, 910256, 910257, 910258, 910259, 910260, 910261, 910262, 910263, 910320, 910321, 910322, 910323, 910324, 910325, 910326, 910327, 910384, 910385, 910386, 910387, 910388, 910389, 910390, 910391, 910448, 910449, 910450, 910451, 910452, 910453, 910454, 910455] -/
def f17_b2 : ICode := .seq (.seq (.draw [nn (.mv 94 (.t 8)), nn (.len 95 false (.t 94)), nn (.bin 96 false .gtr (.t 95) (ci 0)), nn (.mv 97 (.t 96)), ⟨.mv 98 (.t 8), some (97, true)⟩, ⟨.iaddr 99 (.t 98) (ci 0) 2, some (97, true)⟩, ⟨.faddr 100 (.t 99) 0, some (97, true)⟩, ⟨.load 101 (.t 100) 1 false, some (97, true)⟩, ⟨.mv 102 (.t 0), some (97, true)⟩, ⟨.nchk 103 (.t 102), some (97, true)⟩, ⟨.faddr 104 (.t 103) 1, some (97, true)⟩, ⟨.load 105 (.t 104) 1 false, some (97, true)⟩, ⟨.bin 106 false .add (.t 105) (ci 1), some (97, true)⟩, ⟨.bin 107 false .eql (.t 101) (.t 106), some (97, true)⟩, nn (.pick 108 (.t 97) (.t 107) (.c (.v (.bool false))))] [0, 1, 3, 7, 15, 31, 63, 127, 15, 271, 783, 1807, 3855, 8191, 16383] ⟨[0, 8, 11, 108], [(8, 8), (11, 11)]⟩) (.cond (.t 108) (.skip) (.seq (.gc ⟨[0, 8, 11], [(8, 8), (11, 11)]⟩) (.exit 2)))) (.block 3 (.seq (.region [nn (.mv 109 (.t 11)), nn (.mv 110 (.t 8)), nn (.iaddr 111 (.t 110) (ci 0) 2), nn (.faddr 112 (.t 111) 1), nn (.load 113 (.t 112) 1 false), nn (.bslice 114 30 1 [(.t 113)]), nn (.append 115 (.t 109) (.t 114) 30 1 24), nn (.mv 11 (.t 115))] ⟨[0, 8, 11], [(8, 8), (115, 11)]⟩) (.seq (.region [nn (.mv 116 (.t 8)), nn (.slice 117 (.t 116) (some (ci 1)) none none 58 2), nn (.mv 8 (.t 117))] ⟨[0, 8, 11], [(8, 8), (11, 11)]⟩) (.region [nn (.mv 118 (.t 0)), nn (.nchk 119 (.t 118)), nn (.faddr 120 (.t 119) 1), nn (.load 121 (.t 120) 1 false), nn (.bin 122 false .add (.t 121) (ci 1)), nn (.nchk 123 (.t 118)), nn (.faddr 124 (.t 123) 1), nn (.store (.t 124) (.t 122) 1)] ⟨[0, 8, 11], [(8, 8), (11, 11)]⟩))))
def f17_l2 : ICode := .loop f17_b2
theorem f17_l2_eq (C : Cs) (lo : Nat) (st : St) : E C lo f17_l2 st = seqK (E C lo f17_l2) (E C lo f17_b2 st) := E_loop C lo f17_b2 st
/-- (*tracery/traceryref17.Receiver).Take -/
def f17 : IFn := ⟨.seq (.region [nn (.mv 6 (.c (.v (.sl (.tight 30) 1 [])))), nn (.mv 7 (ci 0))] ⟨[0, 1, 2], []⟩) (.seq (.seq (.draw [nn (.mv 12 (.t 1)), nn (.mv 13 (.t 0)), nn (.nchk 14 (.t 13)), nn (.faddr 15 (.t 14) 1), nn (.load 16 (.t 15) 1 false), nn (.bin 17 false .leq (.t 12) (.t 16)), nn (.mv 18 (.t 17)), ⟨.mv 19 (.t 1), some (18, false)⟩, ⟨.mv 20 (.t 0), some (18, false)⟩, ⟨.nchk 21 (.t 20), some (18, false)⟩, ⟨.faddr 22 (.t 21) 0, some (18, false)⟩, ⟨.load 23 (.t 22) 1 false, some (18, false)⟩, ⟨.bin 24 false .sub (.t 19) (.t 23), some (18, false)⟩, ⟨.mv 25 (.t 0), some (18, false)⟩, ⟨.nchk 26 (.t 25), some (18, false)⟩, ⟨.faddr 27 (.t 26) 1, some (18, false)⟩, ⟨.load 28 (.t 27) 1 false, some (18, false)⟩, ⟨.bin 29 false .gtr (.t 24) (.t 28), some (18, false)⟩, nn (.pick 30 (.t 18) (.c (.v (.bool true))) (.t 29))] [0, 0, 2, 6, 14, 31, 63, 127, 127, 383, 895, 1919, 4095, 127, 8319, 24703, 57471, 131071, 262143] ⟨[0, 1, 2, 30], []⟩) (.cond (.t 30) (.seq (.region [nn (.mv 6 (.c (.v (.sl (.tight 30) 1 [])))), nn (.mv 7 (ci 22))] ⟨[6, 7], []⟩) (.ret)) (.skip))) (.seq (.region [nn (.bslice 31 58 2 []), nn (.mv 8 (.t 31))] ⟨[0, 1, 2, 8], [(31, 8)]⟩) (.seq (.region [nn (.mv 9 (.c (.v (.bool false))))] ⟨[0, 1, 2, 8, 9], [(8, 8)]⟩) (.seq (.seq (.region [nn (.mv 10 (ci 0))] ⟨[0, 1, 2, 8, 9, 10], [(8, 8)]⟩) (.block 0 (f17_l1))) (.seq (.seq (.region [nn (.mv 83 (.t 9)), nn (.un 84 .not (.t 83))] ⟨[0, 1, 2, 8, 84], [(8, 8)]⟩) (.cond (.t 84) (.region [nn (.mv 85 (.t 8)), nn (.mv 86 (.t 1)), nn (.bslice 87 5 1 []), nn (.mv 88 (.t 2)), nn (.append 89 (.t 87) (.t 88) 5 1 1), nn (.build 90 [(.v (.int .i64 0)), (.v (.sl (.tight 5) 1 []))] [(0, 1, (.t 86)), (1, 1, (.t 89))]), nn (.bslice 91 58 2 [(.t 90)]), nn (.append 92 (.t 85) (.t 91) 58 2 32), nn (.mv 8 (.t 92))] ⟨[0, 8], [(92, 8)]⟩) (.skip))) (.seq (.region [nn (.bslice 93 30 1 []), nn (.mv 11 (.t 93))] ⟨[0, 8, 11], [(8, 8), (93, 11)]⟩) (.seq (.block 2 (f17_l2)) (.seq (.region [nn (.mv 125 (.t 0)), nn (.mv 126 (.t 8)), nn (.nchk 127 (.t 125)), nn (.faddr 128 (.t 127) 2), nn (.sst (.t 128) (.t 126) 1)] ⟨[11], [(11, 11)]⟩) (.seq (.region [nn (.mv 129 (.t 11)), nn (.mv 6 (.t 129)), nn (.mv 7 (ci 0))] ⟨[6, 7], [(11, 6)]⟩) (.ret)))))))))), [.tmp 6, .tmp 7]⟩
theorem f17_chk : chk Try.prog 17 [(0, ⟨[0, 1, 2], []⟩), (1, ⟨[0, 1, 2, 30], []⟩), (2, ⟨[6, 7], []⟩), (3, ⟨[0, 1, 2, 8], [(31, 8)]⟩), (4, ⟨[0, 1, 2, 8, 9], [(8, 8)]⟩), (5, ⟨[0, 1, 2, 8, 9, 10], [(8, 8)]⟩), (6, ⟨[0, 1, 2, 8, 9, 10, 38], [(8, 8)]⟩), (7, ⟨[0, 1, 2, 8, 9, 10], [(8, 8)]⟩), (8, ⟨[0, 1, 2, 8, 9, 10, 50], [(8, 8)]⟩), (9, ⟨[6, 7], []⟩), (10, ⟨[0, 1, 2, 8, 9, 10, 64], [(8, 8)]⟩), (11, ⟨[0, 1, 2, 8, 10], [(72, 8)]⟩), (12, ⟨[0, 1, 2, 8, 9, 10], [(8, 8)]⟩), (13, ⟨[0, 1, 2, 8, 9, 10], [(82, 8)]⟩), (14, ⟨[0, 1, 2, 8, 84], [(8, 8)]⟩), (15, ⟨[0, 8], [(92, 8)]⟩), (16, ⟨[0, 8, 11], [(8, 8), (93, 11)]⟩), (17, ⟨[0, 8, 11, 108], [(8, 8), (11, 11)]⟩), (18, ⟨[0, 8, 11], [(8, 8), (115, 11)]⟩), (19, ⟨[0, 8, 11], [(8, 8), (11, 11)]⟩), (20, ⟨[0, 8, 11], [(8, 8), (11, 11)]⟩), (21, ⟨[11], [(11, 11)]⟩), (22, ⟨[6, 7], [(11, 6)]⟩), (1000000, ⟨[500000128], []⟩)] [(0, ⟨[0, 1, 2, 8, 9], [(8, 8)]⟩), (1, ⟨[0, 1, 2, 8, 9, 10], []⟩), (2, ⟨[0, 8, 11], [(8, 8), (11, 11)]⟩), (3, ⟨[0, 8, 11], []⟩)] = some f17 := by kernel_rfl
/-- slots [0, 1, 5]; objects [] -/
def f18_b1 : ICode := .seq (.seq (.region [nn (.mv 11 (.t 5)), nn (.mv 12 (.t 0)), nn (.len 13 false (.t 12)), nn (.bin 14 false .lss (.t 11) (.t 13))] ⟨[0, 1, 5, 14], []⟩) (.cond (.t 14) (.skip) (.seq (.gc ⟨[], []⟩) (.exit 0)))) (.seq (.block 1 (.seq (.draw [nn (.mv 17 (.t 0)), nn (.mv 18 (.t 5)), nn (.iaddr 19 (.t 17) (.t 18) 1), nn (.load 20 (.t 19) 1 false), nn (.b2s 21 (.t 20)), nn (.mv 22 (.t 1)), nn (.mv 23 (.t 5)), nn (.iaddr 24 (.t 22) (.t 23) 1), nn (.load 25 (.t 24) 1 false), nn (.b2s 26 (.t 25)), nn (.bin 27 false .neq (.t 21) (.t 26))] [0, 0, 3, 7, 15, 0, 0, 96, 224, 480, 1023] ⟨[0, 1, 5, 27], []⟩) (.cond (.t 27) (.seq (.region [nn (.mv 4 (.c (.v (.bool false))))] ⟨[4], []⟩) (.ret)) (.skip)))) (.region [nn (.mv 15 (.t 5)), nn (.bin 16 false .add (.t 15) (ci 1)), nn (.mv 5 (.t 16))] ⟨[0, 1, 5], []⟩))
def f18_l1 : ICode := .loop f18_b1
theorem f18_l1_eq (C : Cs) (lo : Nat) (st : St) : E C lo f18_l1 st = seqK (E C lo f18_l1) (E C lo f18_b1 st) := E_loop C lo f18_b1 st
/-- tracery/traceryref17.Same -/
def f18 : IFn := ⟨.seq (.region [nn (.mv 4 (.c (.v (.bool false))))] ⟨[0, 1], []⟩) (.seq (.seq (.region [nn (.mv 6 (.t 0)), nn (.len 7 false (.t 6)), nn (.mv 8 (.t 1)), nn (.len 9 false (.t 8)), nn (.bin 10 false .neq (.t 7) (.t 9))] ⟨[0, 1, 10], []⟩) (.cond (.t 10) (.seq (.region [nn (.mv 4 (.c (.v (.bool false))))] ⟨[4], []⟩) (.ret)) (.skip))) (.seq (.seq (.region [nn (.mv 5 (ci 0))] ⟨[0, 1, 5], []⟩) (.block 0 (f18_l1))) (.seq (.region [nn (.mv 4 (.c (.v (.bool true))))] ⟨[4], []⟩) (.ret)))), [.tmp 4]⟩
theorem f18_chk : chk Try.prog 18 [(0, ⟨[0, 1], []⟩), (1, ⟨[0, 1, 10], []⟩), (2, ⟨[4], []⟩), (3, ⟨[0, 1, 5], []⟩), (4, ⟨[0, 1, 5, 14], []⟩), (5, ⟨[0, 1, 5], []⟩), (6, ⟨[0, 1, 5, 27], []⟩), (7, ⟨[4], []⟩), (8, ⟨[4], []⟩)] [(0, ⟨[], []⟩), (1, ⟨[0, 1, 5], []⟩)] = some f18 := by kernel_rfl
/-- slots [0, 3, 4]; objects [3] -/
def f19_b1 : ICode := .seq (.seq (.region [nn (.mv 6 (.t 4)), nn (.mv 7 (.t 0)), nn (.len 8 false (.t 7)), nn (.bin 9 false .lss (.t 6) (.t 8))] ⟨[0, 3, 4, 9], [(3, 3)]⟩) (.cond (.t 9) (.skip) (.seq (.gc ⟨[3], [(3, 3)]⟩) (.exit 0)))) (.seq (.block 1 (.region [nn (.mv 12 (.t 3)), nn (.mv 13 (.t 0)), nn (.mv 14 (.t 4)), nn (.iaddr 15 (.t 13) (.t 14) 2), nn (.faddr 16 (.t 15) 0), nn (.load 17 (.t 16) 1 false), nn (.bslice 18 3 1 [(.t 17)]), nn (.append 19 (.t 12) (.t 18) 3 1 8), nn (.mv 3 (.t 19))] ⟨[0, 3, 4], [(19, 3)]⟩)) (.region [nn (.mv 10 (.t 4)), nn (.bin 11 false .add (.t 10) (ci 1)), nn (.mv 4 (.t 11))] ⟨[0, 3, 4], [(3, 3)]⟩))
def f19_l1 : ICode := .loop f19_b1
theorem f19_l1_eq (C : Cs) (lo : Nat) (st : St) : E C lo f19_l1 st = seqK (E C lo f19_l1) (E C lo f19_b1 st) := E_loop C lo f19_b1 st
/-- tracery/traceryref17.Seqs -/
def f19 : IFn := ⟨.seq (.region [nn (.mv 2 (.c (.v (.sl (.tight 3) 1 []))))] ⟨[0], []⟩) (.seq (.region [nn (.bslice 5 3 1 []), nn (.mv 3 (.t 5))] ⟨[0, 3], [(5, 3)]⟩) (.seq (.seq (.region [nn (.mv 4 (ci 0))] ⟨[0, 3, 4], [(3, 3)]⟩) (.block 0 (f19_l1))) (.seq (.region [nn (.mv 20 (.t 3)), nn (.mv 2 (.t 20))] ⟨[2], [(3, 2)]⟩) (.ret)))), [.tmp 2]⟩
theorem f19_chk : chk Try.prog 19 [(0, ⟨[0], []⟩), (1, ⟨[0, 3], [(5, 3)]⟩), (2, ⟨[0, 3, 4], [(3, 3)]⟩), (3, ⟨[0, 3, 4, 9], [(3, 3)]⟩), (4, ⟨[0, 3, 4], [(3, 3)]⟩), (5, ⟨[0, 3, 4], [(19, 3)]⟩), (6, ⟨[2], [(3, 2)]⟩)] [(0, ⟨[3], [(3, 3)]⟩), (1, ⟨[0, 3, 4], []⟩)] = some f19 := by kernel_rfl
def tab : List (Nat × IFn) := [(3, f3), (4, f4), (5, f5), (6, f6), (7, f7), (8, f8), (9, f9), (10, f10), (12, f12), (13, f13), (14, f14), (15, f15), (17, f17), (18, f18), (19, f19)]
def lookF : List (Nat × IFn) → Nat → Option FEnt
  | [], _ => none
  | (i, fn) :: r, f => if i = f then some (.code fn) else lookF r f
def lookE : List (Nat × FEnt) → Nat → Option FEnt
  | [], _ => none
  | (i, e) :: r, f => if i = f then some e else lookE r f
noncomputable def F : FuncId → Option FEnt := fun f => match lookE exts f with
  | some e => some e
  | none => lookF tab f
theorem tab_ok : ∀ x ∈ tab, ∃ A B, chk Try.prog x.1 A B = some x.2 :=
  List.forall_mem_cons.2 ⟨⟨_, _, f3_chk⟩, List.forall_mem_cons.2 ⟨⟨_, _, f4_chk⟩, List.forall_mem_cons.2 ⟨⟨_, _, f5_chk⟩, List.forall_mem_cons.2 ⟨⟨_, _, f6_chk⟩, List.forall_mem_cons.2 ⟨⟨_, _, f7_chk⟩, List.forall_mem_cons.2 ⟨⟨_, _, f8_chk⟩, List.forall_mem_cons.2 ⟨⟨_, _, f9_chk⟩, List.forall_mem_cons.2 ⟨⟨_, _, f10_chk⟩, List.forall_mem_cons.2 ⟨⟨_, _, f12_chk⟩, List.forall_mem_cons.2 ⟨⟨_, _, f13_chk⟩, List.forall_mem_cons.2 ⟨⟨_, _, f14_chk⟩, List.forall_mem_cons.2 ⟨⟨_, _, f15_chk⟩, List.forall_mem_cons.2 ⟨⟨_, _, f17_chk⟩, List.forall_mem_cons.2 ⟨⟨_, _, f18_chk⟩, List.forall_mem_cons.2 ⟨⟨_, _, f19_chk⟩, fun _ h => by cases h⟩⟩⟩⟩⟩⟩⟩⟩⟩⟩⟩⟩⟩⟩⟩
theorem lookF_ok : ∀ {l : List (Nat × IFn)}, (∀ x ∈ l, ∃ A B, chk Try.prog x.1 A B = some x.2) → ∀ f e, lookF l f = some e → EntOK Try.prog f e
  | [], _, f, e, h => by cases h
  | (i, fn) :: r, hl, f, e, h => by
    simp only [lookF] at h
    split at h
    · rename_i hi
      subst hi
      obtain rfl := Option.some.inj h
      exact hl (i, fn) (by simp)
    · exact lookF_ok (fun x hx => hl x (by simp [hx])) f e h
theorem lookE_ok : ∀ {l : List (Nat × FEnt)}, (∀ x ∈ l, EntOK Try.prog x.1 x.2) → ∀ f e, lookE l f = some e → EntOK Try.prog f e
  | [], _, f, e, h => by cases h
  | (i, x) :: r, hl, f, e, h => by
    simp only [lookE] at h
    split at h
    · rename_i hi
      subst hi
      obtain rfl := Option.some.inj h
      exact hl (i, x) (by simp)
    · exact lookE_ok (fun x hx => hl x (by simp [hx])) f e h
theorem goodC : Good Try.prog (cs F) := call_good F (Checked.mixed Try.checked) fun f e h => by
  unfold F at h
  split at h
  · rename_i x hx
    obtain rfl := Option.some.inj h
    exact lookE_ok exts_ok f _ hx
  · exact lookF_ok tab_ok f e h
theorem good : ∀ f args r, call F f args = some r → Sound Try.prog f args r := goodC.1
end Go.Proofs.Ytkliiknolnodjaa.Sx
namespace Go.Proofs.Ytkliiknolnodjaa.Sx
open Go
def winR (w : Int) : Int := min (max w 1) 64
theorem new_i (lo : Nat) (g : Hp) (hg : LowH g lo) (w : Int) : calli F 9 lo g [.v (.int .i64 w)] = some (.p (lo + 2) 0, upd (upd g (lo + 10130) (some (.map false false false []))) (lo + 2) (some (.var false [.v (.int .i64 (winR w)), .v (.int .i64 0), .m (lo + 10130)]))) := by
  have hn := hg.none
  have hk := fun j => keepLo_low hg j
  rw [calli_code F (fn := f9) rfl]
  have hw : (if (64 : Int) < if 1 > w then 1 else w then 64 else if 1 > w then 1 else w) = winR w := by unfold winR; split <;> split at * <;> omega
  simp only [f9, hn, hk, hw, go_sem, reduceIte, reduceCtorEq, Nat.reduceEqDiff, Nat.reduceAdd, Nat.reduceMul, Nat.reduceLeDiff, Nat.reduceSub, Nat.reduceBEq, List.length_cons, List.length_nil, Int.reduceLT, Int.reduceLE, Int.reduceGT, Int.reduceGE, Int.reduceAdd, Int.reduceSub, Int.reduceMul, Int.reduceNeg, Int.reduceToNat, Int.reduceEq, Int.reduceNe, Int.cast_ofNat_Int, ne_eq, not_true_eq_false, not_false_eq_true, Nat.testBit, Nat.reduceShiftRight, Nat.reduceAnd, Nat.reduceBNe]
/-- a heap in which a receiver lies -/
structure RecvAt (g : Hp) (lo id mid : Nat) (W got : Int) (L : List Held) : Prop where
  low : LowH g lo
  lt : id < lo
  mlt : mid < lo
  ne : ¬ id = mid
  var : g id = some (.var false [.v (.int .i64 W), .v (.int .i64 got), .m mid])
  map : g mid = some (.map false false false (entsR L))
/-- the heap behind: other numbers, other entries -/
def reH (g : Hp) (id mid : Nat) (W got : Int) (L : List Held) : Hp := upd (upd g id (some (.var false [.v (.int .i64 W), .v (.int .i64 got), .m mid]))) mid (some (.map false false false (entsR L)))
theorem got_c (W got : Int) : call F 12 [.pc [.int .i64 W, .int .i64 got, .unk]] = some (.int .i64 got) := by
  rw [call_code F (show F 12 = some (.code f12) from rfl)]
  simp only [f12, go_sem, reduceIte, reduceCtorEq, Nat.reduceEqDiff, Nat.reduceAdd, Nat.reduceMul, Nat.reduceLeDiff, Nat.reduceSub, Nat.reduceBEq, List.length_cons, List.length_nil, Int.reduceLT, Int.reduceLE, Int.reduceGT, Int.reduceGE, Int.reduceAdd, Int.reduceSub, Int.reduceMul, Int.reduceNeg, Int.reduceToNat, Int.reduceEq, Int.reduceNe, Int.cast_ofNat_Int, ne_eq, not_true_eq_false, not_false_eq_true, Nat.testBit, Nat.reduceShiftRight, Nat.reduceAnd, Nat.reduceBNe]
theorem reH_id {g : Hp} {lo id mid : Nat} {W got : Int} {L : List Held} (hR : RecvAt g lo id mid W got L) : reH g id mid W got L = g := by
  unfold reH; rw [upd_id hR.var, upd_id hR.map]
theorem reH_re (g : Hp) {id mid : Nat} (h : ¬ id = mid) (W a b : Int) (L M : List Held) : reH (reH g id mid W a L) id mid W b M = reH g id mid W b M := by
  unfold reH
  rw [upd_swap (upd (upd g id _) mid _) h, upd_two, upd_swap g h, upd_two, ← upd_swap g h]
theorem recv_re {g : Hp} {lo id mid : Nat} {W got : Int} {L : List Held} (hR : RecvAt g lo id mid W got L) (got' : Int) (M : List Held) : RecvAt (reH g id mid W got' M) lo id mid W got' M := by
  refine ⟨(hR.low.upd hR.lt fun m j hm => mask_ints j false W got' (by have := hR.mlt; omega)).upd hR.mlt fun m j hm => rfl, hR.lt, hR.mlt, hR.ne, ?_, ?_⟩
  · unfold reH upd; simp [hR.ne]
  · unfold reH upd; simp
theorem drain_none {n : Nat} {got : Int} {L : List Held} (h : lookR (got + 1) L = none) : drainR n got L = ([], got, L) := by
  cases n with
  | zero => rfl
  | succ n => simp only [drainR, h]
theorem drain_some {n : Nat} {got : Int} {L : List Held} {b : List UInt8} (h : lookR (got + 1) L = some b) : drainR (n + 1) got L = (b :: (drainR n (got + 1) (dropR (got + 1) L)).1, (drainR n (got + 1) (dropR (got + 1) L)).2) := by
  simp only [drainR, h]
theorem bs_snoc (acc : List (List UInt8)) (b : List UInt8) : rowsBy cBs acc ++ [[TV.sl .shared 1 (rowsBy cByte b)]] = rowsBy cBs (acc ++ [b]) := by rw [← rowsBy_snoc]; rfl
theorem take_l (lo : Nat) (hlt : lo < 1000000000000) (id mid : Nat) (W : Int) : ∀ (f : Nat) (g : Hp) (got : Int) (L : List Held) (acc : List (List UInt8)), RecvAt g lo id mid W got L → L.length ≤ f → 0 ≤ got → got + f ≤ 1000000000 → acc.length + f ≤ 1000000000 →
    E (cs F) lo f10_l1 ⟨upd (upd e0 10 (.s (lo + 10) 0 acc.length)) 0 (.p id 0), upd g (lo + 10) (some (.arr false 30 1 (rowsBy cBs acc)))⟩ =
    some (.ret, ⟨upd (upd e0 7 (.v (.int .i64 0))) 6 (.s (lo + 6) 0 (acc ++ (drainR f got L).1).length), upd (reH g id mid W (drainR f got L).2.1 (drainR f got L).2.2) (lo + 6) (some (.arr false 30 1 (rowsBy cBs (acc ++ (drainR f got L).1))))⟩) := by
  intro f
  induction f with
  | zero =>
    intro g got L acc hR hL h0 h1 h2
    have hLn : L = [] := List.eq_nil_of_length_eq_zero (by omega)
    subst hLn
    have hk := fun j => keepLo_low hR.low j
    have hw : IntKind.i64.wrap (got + 1) = got + 1 := wrap64 (by omega) (by omega)
    have a1 := ne_add hR.lt
    have a2 := add_ne hR.lt
    have a3 := ne_add hR.mlt
    have a4 := add_ne hR.mlt
    rw [f10_l1_eq, drain_none rfl, List.append_nil, reH_id hR]
    simp only [f10_b1, hR.var, hR.map, hR.lt, hR.mlt, hk, hw, a1, a2, a3, a4, hR.ne, entsR, findM, go_sem, reduceIte, reduceCtorEq, Nat.reduceEqDiff, Nat.reduceAdd, Nat.reduceMul, Nat.reduceLeDiff, Nat.reduceSub, Nat.reduceBEq, List.length_cons, List.length_nil, Int.reduceLT, Int.reduceLE, Int.reduceGT, Int.reduceGE, Int.reduceAdd, Int.reduceSub, Int.reduceMul, Int.reduceNeg, Int.reduceToNat, Int.reduceEq, Int.reduceNe, Int.cast_ofNat_Int, ne_eq, not_true_eq_false, not_false_eq_true, Nat.testBit, Nat.reduceShiftRight, Nat.reduceAnd, Nat.reduceBNe]
  | succ f ih =>
    intro g got L acc hR hL h0 h1 h2
    have hk := fun j => keepLo_low hR.low j
    have hw : IntKind.i64.wrap (got + 1) = got + 1 := wrap64 (by omega) (by omega)
    have a1 := ne_add hR.lt
    have a2 := add_ne hR.lt
    have a3 := ne_add hR.mlt
    have a4 := add_ne hR.mlt
    have hf := find_ents (got + 1) L
    cases hl : lookR (got + 1) L with
    | none =>
      rw [hl] at hf
      rw [f10_l1_eq, drain_none hl, List.append_nil, reH_id hR]
      simp only [f10_b1, hR.var, hR.map, hR.lt, hR.mlt, hk, hw, a1, a2, a3, a4, hR.ne, hf, Option.map_none, go_sem, reduceIte, reduceCtorEq, Nat.reduceEqDiff, Nat.reduceAdd, Nat.reduceMul, Nat.reduceLeDiff, Nat.reduceSub, Nat.reduceBEq, List.length_cons, List.length_nil, Int.reduceLT, Int.reduceLE, Int.reduceGT, Int.reduceGE, Int.reduceAdd, Int.reduceSub, Int.reduceMul, Int.reduceNeg, Int.reduceToNat, Int.reduceEq, Int.reduceNe, Int.cast_ofNat_Int, ne_eq, not_true_eq_false, not_false_eq_true, Nat.testBit, Nat.reduceShiftRight, Nat.reduceAnd, Nat.reduceBNe]
    | some b =>
      rw [hl] at hf
      have hR' := recv_re hR (got + 1) (dropR (got + 1) L)
      have hd := dropR_len (n := got + 1) (l := L) (by rw [hl]; simp)
      have key := ih _ (got + 1) (dropR (got + 1) L) (acc ++ [b]) hR' (by omega) (by omega) (by omega) (by simp; omega)
      have hne' : ¬ mid = id := fun e => hR.ne e.symm
      have hacc : (acc.length + 1) * 24 ≤ 140737488355328 := by omega
      rw [f10_l1_eq, drain_some hl]
      rw [reH_re g hR.ne] at key
      simp only [List.append_assoc, List.singleton_append] at key
      have hde := del_ents (got + 1) L
      simp only [f10_b1, hR.var, hR.map, hR.lt, hR.mlt, hk, hw, a1, a2, a3, a4, hR.ne, hne', hf, Option.map_some, cBs, hde, hacc, bs_snoc, storeQ_lt hlt, tightR_small hlt, appN_small hlt, hR.low.none, go_sem, reduceIte, reduceCtorEq, Nat.reduceEqDiff, Nat.reduceAdd, Nat.reduceMul, Nat.reduceLeDiff, Nat.reduceSub, Nat.reduceBEq, List.length_cons, List.length_nil, Int.reduceLT, Int.reduceLE, Int.reduceGT, Int.reduceGE, Int.reduceAdd, Int.reduceSub, Int.reduceMul, Int.reduceNeg, Int.reduceToNat, Int.reduceEq, Int.reduceNe, Int.cast_ofNat_Int, ne_eq, not_true_eq_false, not_false_eq_true, Nat.testBit, Nat.reduceShiftRight, Nat.reduceAnd, Nat.reduceBNe]
      rw [List.length_append] at key
      exact key
/-- what a take tells, and what lies there then -/
def toldL (lo : Nat) (t : List (List UInt8)) (e : Int) : LV := .tup [if t = [] then .v (.sl (.tight 30) 1 []) else .s (lo + 6) 0 t.length, .v (.int .i64 e)]
def toldH (lo : Nat) (t : List (List UInt8)) (g : Hp) : Hp := if t = [] then g else upd g (lo + 6) (some (.arr false 30 1 (rowsBy cBs t)))
theorem c_clone (fl : Fl) (b : List UInt8) (hb : b.length ≤ 100000) : call F 20 [.sl fl 1 (rowsBy cByte b)] = some (.sl (.own 5) 1 (rowsBy cByte b)) := by
  rw [call_ext F (g := cloneG 5 1 1) rfl]
  simp only [cloneG, rowsBy_length]
  rw [if_pos ⟨trivial, by omega⟩]
theorem scalarRows_bytes (b : List UInt8) : scalarRows (rowsBy cByte b) = true := by
  induction b with
  | nil => rfl
  | cons c b ih => simp only [rowsBy, scalarRows, ih, cByte, scalars, TV.scalar, Bool.and_self]
theorem take_no {lo : Nat} (hlt : lo < 1000000000000) {id mid : Nat} {W got : Int} {L : List Held} {g : Hp} (hR : RecvAt g lo id mid W got L) (h0 : 0 ≤ got) (h1 : got ≤ 1000000) (hW : 1 ≤ W ∧ W ≤ 64) {seq : Int} (x : LV) (hx : maskL lo [] x = x) (hno : ¬ mayR W got L seq) :
    calli F 10 lo g [.p id 0, .v (.int .i64 seq), x] = some (toldL lo [] 22, g) := by
  have hk := fun j => keepLo_low hR.low j
  have hw : IntKind.i64.wrap (got + W) = got + W := wrap64 (by omega) (by omega)
  have a1 := ne_add hR.lt
  have a2 := add_ne hR.lt
  have a3 := ne_add hR.mlt
  have a4 := add_ne hR.mlt
  have hf := find_ents seq L
  rw [calli_code F (fn := f10) rfl]
  cases hl : lookR seq L with
  | some c =>
    rw [hl] at hf
    simp only [f10, hR.var, hR.map, hR.lt, hR.mlt, hk, hw, a1, a2, a3, a4, hR.ne, hf, Option.map_some, cBs, hx, toldL, go_sem, reduceIte, reduceCtorEq, Nat.reduceEqDiff, Nat.reduceAdd, Nat.reduceMul, Nat.reduceLeDiff, Nat.reduceSub, Nat.reduceBEq, List.length_cons, List.length_nil, Int.reduceLT, Int.reduceLE, Int.reduceGT, Int.reduceGE, Int.reduceAdd, Int.reduceSub, Int.reduceMul, Int.reduceNeg, Int.reduceToNat, Int.reduceEq, Int.reduceNe, Int.cast_ofNat_Int, ne_eq, not_true_eq_false, not_false_eq_true, Nat.testBit, Nat.reduceShiftRight, Nat.reduceAnd, Nat.reduceBNe]
  | none =>
    rw [hl] at hf
    by_cases hs : seq ≤ got
    · simp only [f10, hR.var, hR.map, hR.lt, hR.mlt, hk, hw, a1, a2, a3, a4, hR.ne, hf, Option.map_none, cBs, hx, toldL, hs, decide_true, go_sem, reduceIte, reduceCtorEq, Nat.reduceEqDiff, Nat.reduceAdd, Nat.reduceMul, Nat.reduceLeDiff, Nat.reduceSub, Nat.reduceBEq, List.length_cons, List.length_nil, Int.reduceLT, Int.reduceLE, Int.reduceGT, Int.reduceGE, Int.reduceAdd, Int.reduceSub, Int.reduceMul, Int.reduceNeg, Int.reduceToNat, Int.reduceEq, Int.reduceNe, Int.cast_ofNat_Int, ne_eq, not_true_eq_false, not_false_eq_true, Nat.testBit, Nat.reduceShiftRight, Nat.reduceAnd, Nat.reduceBNe]
    · have hs2 : seq > got + W := by
        refine Int.not_le.1 fun h => hno ⟨hl, by omega, h⟩
      simp only [f10, hR.var, hR.map, hR.lt, hR.mlt, hk, hw, a1, a2, a3, a4, hR.ne, hf, Option.map_none, cBs, hx, toldL, hs, hs2, decide_true, decide_false, go_sem, reduceIte, reduceCtorEq, Nat.reduceEqDiff, Nat.reduceAdd, Nat.reduceMul, Nat.reduceLeDiff, Nat.reduceSub, Nat.reduceBEq, List.length_cons, List.length_nil, Int.reduceLT, Int.reduceLE, Int.reduceGT, Int.reduceGE, Int.reduceAdd, Int.reduceSub, Int.reduceMul, Int.reduceNeg, Int.reduceToNat, Int.reduceEq, Int.reduceNe, Int.cast_ofNat_Int, ne_eq, not_true_eq_false, not_false_eq_true, Nat.testBit, Nat.reduceShiftRight, Nat.reduceAnd, Nat.reduceBNe]
theorem reH_got {g : Hp} {lo id mid : Nat} {W got : Int} {L : List Held} (hR : RecvAt g lo id mid W got L) (M : List Held) : reH g id mid W got M = upd g mid (some (.map false false false (entsR M))) := by
  unfold reH; rw [upd_id hR.var]
/-- the rounds, none told yet -/
theorem take_m (lo : Nat) (hlt : lo < 1000000000000) (id mid : Nat) (W : Int) (f : Nat) (g : Hp) (got : Int) (L : List Held) (hR : RecvAt g lo id mid W got L) (hL : L.length ≤ f) (h0 : 0 ≤ got) (h1 : got + f ≤ 1000000000) (h2 : f + 1 ≤ 1000000000) :
    ∃ st, E (cs F) lo f10_l1 ⟨upd (upd e0 10 (.v (.sl (.tight 30) 1 []))) 0 (.p id 0), g⟩ = some (.ret, st) ∧ finI [RV.tmp 6, RV.tmp 7] (some (.ret, st)) = some (toldL lo (drainR f got L).1 0, toldH lo (drainR f got L).1 (reH g id mid W (drainR f got L).2.1 (drainR f got L).2.2)) := by
  have hk := fun j => keepLo_low hR.low j
  have hw : IntKind.i64.wrap (got + 1) = got + 1 := wrap64 (by omega) (by omega)
  have a1 := ne_add hR.lt
  have a2 := add_ne hR.lt
  have a3 := ne_add hR.mlt
  have a4 := add_ne hR.mlt
  have b1 := beq_add hR.lt
  have b2 := add_beq hR.lt
  have b3 := beq_add hR.mlt
  have b4 := add_beq hR.mlt
  have hf := find_ents (got + 1) L
  have hun : ∀ k, upd g (lo + k) none = g := fun k => upd_id (hR.low.none k)
  have hne' : ¬ mid = id := fun e => hR.ne e.symm
  cases hl : lookR (got + 1) L with
  | none =>
    rw [hl] at hf
    refine ⟨⟨upd (upd e0 7 (.v (.int .i64 0))) 6 (.v (.sl (.tight 30) 1 [])), g⟩, ?_, ?_⟩
    · rw [f10_l1_eq]
      simp only [f10_b1, hR.var, hR.map, hR.lt, hR.mlt, hk, hw, a1, a2, a3, a4, hR.ne, hf, Option.map_none, hR.low.none, hun, go_sem, reduceIte, reduceCtorEq, Nat.reduceEqDiff, Nat.reduceAdd, Nat.reduceMul, Nat.reduceLeDiff, Nat.reduceSub, Nat.reduceBEq, List.length_cons, List.length_nil, Int.reduceLT, Int.reduceLE, Int.reduceGT, Int.reduceGE, Int.reduceAdd, Int.reduceSub, Int.reduceMul, Int.reduceNeg, Int.reduceToNat, Int.reduceEq, Int.reduceNe, Int.cast_ofNat_Int, ne_eq, not_true_eq_false, not_false_eq_true, Nat.testBit, Nat.reduceShiftRight, Nat.reduceAnd, Nat.reduceBNe]
    · rw [drain_none hl, reH_id hR]
      simp only [toldL, toldH, go_sem, reduceIte, reduceCtorEq, Nat.reduceEqDiff, Nat.reduceAdd, Nat.reduceMul, Nat.reduceLeDiff, Nat.reduceSub, Nat.reduceBEq, List.length_cons, List.length_nil, Int.reduceLT, Int.reduceLE, Int.reduceGT, Int.reduceGE, Int.reduceAdd, Int.reduceSub, Int.reduceMul, Int.reduceNeg, Int.reduceToNat, Int.reduceEq, Int.reduceNe, Int.cast_ofNat_Int, ne_eq, not_true_eq_false, not_false_eq_true, Nat.testBit, Nat.reduceShiftRight, Nat.reduceAnd, Nat.reduceBNe]
  | some b =>
    rw [hl] at hf
    have hd := dropR_len (n := got + 1) (l := L) (by rw [hl]; simp)
    cases f with
    | zero => omega
    | succ f =>
      have hR' := recv_re hR (got + 1) (dropR (got + 1) L)
      have key := take_l lo hlt id mid W f _ (got + 1) (dropR (got + 1) L) [b] hR' (by omega) (by omega) (by omega) (by simp; omega)
      rw [reH_re g hR.ne] at key
      have hde := del_ents (got + 1) L
      have h24 : (24 : Nat) ≤ 140737488355328 := by decide
      refine ⟨⟨upd (upd e0 7 (.v (.int .i64 0))) 6 (.s (lo + 6) 0 ([b] ++ (drainR f (got + 1) (dropR (got + 1) L)).1).length), upd (reH g id mid W (drainR f (got + 1) (dropR (got + 1) L)).2.1 (drainR f (got + 1) (dropR (got + 1) L)).2.2) (lo + 6) (some (.arr false 30 1 (rowsBy cBs ([b] ++ (drainR f (got + 1) (dropR (got + 1) L)).1))))⟩, ?_, ?_⟩
      · rw [f10_l1_eq]
        simp only [f10_b1, hR.var, hR.map, hR.lt, hR.mlt, hk, hw, a1, a2, a3, a4, b1, b2, b3, b4, hR.ne, hne', hf, Option.map_some, cBs, hde, storeQ_lt hlt, tightR_small hlt, appN_small hlt, hR.low.none, hun, h24, go_sem, reduceIte, reduceCtorEq, Nat.reduceEqDiff, Nat.reduceAdd, Nat.reduceMul, Nat.reduceLeDiff, Nat.reduceSub, Nat.reduceBEq, List.length_cons, List.length_nil, Int.reduceLT, Int.reduceLE, Int.reduceGT, Int.reduceGE, Int.reduceAdd, Int.reduceSub, Int.reduceMul, Int.reduceNeg, Int.reduceToNat, Int.reduceEq, Int.reduceNe, Int.cast_ofNat_Int, ne_eq, not_true_eq_false, not_false_eq_true, Nat.testBit, Nat.reduceShiftRight, Nat.reduceAnd, Nat.reduceBNe]
        exact key
      · rw [drain_some hl]
        simp only [toldL, toldH, List.cons_append, List.nil_append, go_sem, reduceIte, reduceCtorEq, Nat.reduceEqDiff, Nat.reduceAdd, Nat.reduceMul, Nat.reduceLeDiff, Nat.reduceSub, Nat.reduceBEq, List.length_cons, List.length_nil, Int.reduceLT, Int.reduceLE, Int.reduceGT, Int.reduceGE, Int.reduceAdd, Int.reduceSub, Int.reduceMul, Int.reduceNeg, Int.reduceToNat, Int.reduceEq, Int.reduceNe, Int.cast_ofNat_Int, ne_eq, not_true_eq_false, not_false_eq_true, Nat.testBit, Nat.reduceShiftRight, Nat.reduceAnd, Nat.reduceBNe]
/-- a take that may be, of bytes that lie anywhere -/
theorem take_ok {lo : Nat} (hlt : lo < 1000000000000) {id mid : Nat} {W got : Int} {L : List Held} {g : Hp} (hR : RecvAt g lo id mid W got L) (h0 : 0 ≤ got) (h1 : got ≤ 1000000) (hW : 1 ≤ W ∧ W ≤ 64) (hL : L.length ≤ 1000000) {seq : Int} (b : List UInt8) (hb : b.length ≤ 100000) (hm : mayR W got L seq)
    (x : LV) (hx : x = .v (.sl .shared 1 (rowsBy cByte b)) ∨ ∃ bid fz, x = .s bid 0 b.length ∧ bid < lo ∧ g bid = some (.arr fz 5 1 (rowsBy cByte b))) :
    calli F 10 lo g [.p id 0, .v (.int .i64 seq), x] = some (toldL lo (drainR (L.length + 1) got (L ++ [(seq, b)])).1 0, toldH lo (drainR (L.length + 1) got (L ++ [(seq, b)])).1 (reH g id mid W (drainR (L.length + 1) got (L ++ [(seq, b)])).2.1 (drainR (L.length + 1) got (L ++ [(seq, b)])).2.2)) := by
  have hk := fun j => keepLo_low hR.low j
  have hw : IntKind.i64.wrap (got + W) = got + W := wrap64 (by omega) (by omega)
  have a1 := ne_add hR.lt
  have a2 := add_ne hR.lt
  have a3 := ne_add hR.mlt
  have a4 := add_ne hR.mlt
  have b1 := beq_add hR.lt
  have b2 := add_beq hR.lt
  have b3 := beq_add hR.mlt
  have b4 := add_beq hR.mlt
  have hf := find_ents seq L
  obtain ⟨m1, m2, m3⟩ := hm
  have hs : ¬ seq ≤ got := by omega
  have hs2 : ¬ seq > got + W := by omega
  rw [m1] at hf
  have hu := upd_ents seq b L m1
  simp only [cBs] at hu
  have hcl := fun fl => c_clone fl b hb
  have hsc := scalarRows_bytes b
  have hne' : ¬ mid = id := fun e => hR.ne e.symm
  have hR2 := recv_re hR got (L ++ [(seq, b)])
  rw [reH_got hR] at hR2
  obtain ⟨st, k1, k2⟩ := take_m lo hlt id mid W (L.length + 1) _ got _ hR2 (by simp) h0 (by omega) (by omega)
  have hrr := fun a M => reH_re g hR.ne W got a (L ++ [(seq, b)]) M
  rw [reH_got hR] at hrr
  rw [hrr] at k2
  rw [← k2]
  have hbe : ∀ (k : Nat), (k == k) = true := fun k => by simp
  rw [calli_code F (fn := f10) rfl]
  rcases hx with rfl | ⟨bid, fz, rfl, hbl, hbg⟩
  · simp only [f10, hR.var, hR.map, hR.lt, hR.mlt, hk, hw, a1, a2, a3, a4, b1, b2, b3, b4, hR.ne, hne', hf, Option.map_none, hs, hs2, decide_true, decide_false, hcl, hsc, storeQ_lt hlt, tightR_small hlt, appN_small hlt, hR.low.none, hu, hbe, k1, go_sem, reduceIte, reduceCtorEq, Nat.reduceEqDiff, Nat.reduceAdd, Nat.reduceMul, Nat.reduceLeDiff, Nat.reduceSub, Nat.reduceBEq, List.length_cons, List.length_nil, Int.reduceLT, Int.reduceLE, Int.reduceGT, Int.reduceGE, Int.reduceAdd, Int.reduceSub, Int.reduceMul, Int.reduceNeg, Int.reduceToNat, Int.reduceEq, Int.reduceNe, Int.cast_ofNat_Int, ne_eq, not_true_eq_false, not_false_eq_true, Nat.testBit, Nat.reduceShiftRight, Nat.reduceAnd, Nat.reduceBNe]
  · have c1 := ne_add hbl
    have c2 := add_ne hbl
    have c3 := beq_add hbl
    have c4 := add_beq hbl
    simp only [f10, hR.var, hR.map, hR.lt, hR.mlt, hk, hw, a1, a2, a3, a4, b1, b2, b3, b4, c1, c2, c3, c4, hbl, hbg, hR.ne, hne', hf, Option.map_none, hs, hs2, decide_true, decide_false, hcl, hsc, storeQ_lt hlt, tightR_small hlt, appN_small hlt, hR.low.none, hu, hbe, k1, go_sem, reduceIte, reduceCtorEq, Nat.reduceEqDiff, Nat.reduceAdd, Nat.reduceMul, Nat.reduceLeDiff, Nat.reduceSub, Nat.reduceBEq, List.length_cons, List.length_nil, Int.reduceLT, Int.reduceLE, Int.reduceGT, Int.reduceGE, Int.reduceAdd, Int.reduceSub, Int.reduceMul, Int.reduceNeg, Int.reduceToNat, Int.reduceEq, Int.reduceNe, Int.cast_ofNat_Int, ne_eq, not_true_eq_false, not_false_eq_true, Nat.testBit, Nat.reduceShiftRight, Nat.reduceAnd, Nat.reduceBNe]
/-- the numbers that are held -/
theorem held_i {lo : Nat} {id mid : Nat} {W got : Int} {L : List Held} {g : Hp} (hR : RecvAt g lo id mid W got L) (hL : L.length ≤ 1000000) (hn : (L.map (·.1)).Nodup) (hb : ∀ n ∈ L.map (·.1), -9223372036854775808 ≤ n ∧ n ≤ 9223372036854775807) :
    calli F 11 lo g [.p id 0] = some (.s (lo + 1) 0 L.length, upd g (lo + 1) (some (.arr false 3 1 (rowsBy cInt (sortI (L.map (·.1))))))) := by
  rw [calli_inn F (g := heldG) rfl]
  have hok : KeysOk (L.map (·.1)) := ⟨by rw [List.length_map]; omega, hn, hb⟩
  simp only [heldG, hR.var, heldV, hR.map, heldM, keys_ents, hR.low.none, heldK, if_pos hok, List.length_map]
  rw [rowsBy_map]; rfl
theorem rcl_i {lo : Nat} {id mid : Nat} {W got : Int} {L : List Held} {g : Hp} (hR : RecvAt g lo id mid W got L) :
    calli F 16 lo g [.p id 0] = some (.p (lo + 2) 0, upd (upd g (lo + 1) (some (.map false false false (entsR L)))) (lo + 2) (some (.var false [.v (.int .i64 W), .v (.int .i64 got), .m (lo + 1)]))) := by
  rw [calli_inn F (g := rclG) rfl]
  simp only [rclG, hR.var, rclV, hR.map, rclM, hR.low.none, rclK]
end Go.Proofs.Ytkliiknolnodjaa.Sx
namespace Go.Proofs.Ytkliiknolnodjaa.Sx
open Go
theorem RecvAt.mk0 {lo id mid : Nat} (h1 : id < lo) (h2 : mid < lo) (h3 : ¬ id = mid) (W got : Int) (L : List Held) : RecvAt (upd (upd h0 mid (some (.map false false false (entsR L)))) id (some (.var false [.v (.int .i64 W), .v (.int .i64 got), .m mid]))) lo id mid W got L := by
  refine ⟨((LowH.h0 lo).upd h2 fun m j hm => rfl).upd h1 fun m j hm => mask_ints j false W got (by omega), h1, h2, h3, ?_, ?_⟩
  · unfold upd; simp
  · unfold upd; simp [show ¬ mid = id from fun e => h3 e.symm]
theorem RecvAt.more {g : Hp} {lo id mid : Nat} {W got : Int} {L : List Held} (h : RecvAt g lo id mid W got L) {k : Nat} (hk : k < lo) (h1 : ¬ id = k) (h2 : ¬ mid = k) {o : Ob} (ho : ∀ (m : Nat) (j : List (Nat × Nat)), lo ≤ m → maskO m j (some o) = some o) : RecvAt (upd g k (some o)) lo id mid W got L :=
  ⟨h.low.upd hk ho, h.lt, h.mlt, h.ne, by unfold upd; rw [if_neg h1]; exact h.var, by unfold upd; rw [if_neg h2]; exact h.map⟩
theorem take_to {lo : Nat} (hlt : lo < 1000000000000) {id mid : Nat} {W got : Int} {L : List Held} {g : Hp} (hR : RecvAt g lo id mid W got L) (h0 : 0 ≤ got) (h1 : got ≤ 1000000) (hW : 1 ≤ W ∧ W ≤ 64) (hL : L.length ≤ 1000000) {seq : Int} (b : List UInt8) (hb : b.length ≤ 100000) (hm : mayR W got L seq)
    (x : LV) (hx : x = .v (.sl .shared 1 (rowsBy cByte b)) ∨ ∃ bid fz, x = .s bid 0 b.length ∧ bid < lo ∧ g bid = some (.arr fz 5 1 (rowsBy cByte b))) {t : List (List UInt8)} {got' : Int} {L' : List Held} (hd : drainR (L.length + 1) got (L ++ [(seq, b)]) = (t, got', L')) :
    calli F 10 lo g [.p id 0, .v (.int .i64 seq), x] = some (toldL lo t 0, toldH lo t (reH g id mid W got' L')) := by
  rw [take_ok hlt hR h0 h1 hW hL b hb hm x hx, hd]
theorem t_shown : call F 8 [] = some (.bool true) := by
  have t1 := take_to (lo := 2000000) (by decide) (((RecvAt.mk0 (id := 1) (mid := 10066) (by decide) (by decide) (by decide) 4 0 []).more (k := 13) (by decide) (by decide) (by decide) (o := .arr false 5 1 [[.int .u8 98]]) (fun _ _ _ => rfl)).more (k := 13) (by decide) (by decide) (by decide) (o := .dead) (fun _ _ _ => rfl))
    (by decide) (by decide) ⟨by decide, by decide⟩ (by decide) (seq := 2) [98] (by decide) ⟨rfl, by decide, by decide⟩ (.v (.sl .shared 1 [[.int .u8 98]])) (.inl rfl) (t := []) (got' := 0) (L' := [(2, [98])]) rfl
  have t2 := take_no (lo := 3000000) (by decide) (((RecvAt.mk0 (id := 1) (mid := 10066) (by decide) (by decide) (by decide) 4 0 [(2, [98])]).more (k := 20) (by decide) (by decide) (by decide) (o := .arr false 5 1 [[.int .u8 98]]) (fun _ _ _ => rfl)).more (k := 20) (by decide) (by decide) (by decide) (o := .dead) (fun _ _ _ => rfl))
    (by decide) (by decide) ⟨by decide, by decide⟩ (seq := 2) (.v (.sl .shared 1 [[.int .u8 98]])) rfl (fun h => by have := h.1; simp [lookR] at this)
  have t3 := take_to (lo := 4000000) (by decide) (((RecvAt.mk0 (id := 1) (mid := 10066) (by decide) (by decide) (by decide) 4 0 [(2, [98])]).more (k := 27) (by decide) (by decide) (by decide) (o := .arr false 5 1 [[.int .u8 97]]) (fun _ _ _ => rfl)).more (k := 27) (by decide) (by decide) (by decide) (o := .dead) (fun _ _ _ => rfl))
    (by decide) (by decide) ⟨by decide, by decide⟩ (by decide) (seq := 1) [97] (by decide) ⟨rfl, by decide, by decide⟩ (.v (.sl .shared 1 [[.int .u8 97]])) (.inl rfl) (t := [[97], [98]]) (got' := 2) (L' := []) rfl
  have e0 : entsR [] = [] := rfl
  have w4 : winR 4 = 4 := rfl
  have f2 : ¬ ([[97], [98]] : List (List UInt8)) = [] := by simp
  simp only [toldL, toldH, reH, if_true, if_neg f2, e0, List.length_cons, List.length_nil, Nat.reduceAdd] at t1 t2 t3
  rw [call_code F (show F 8 = some (.code f8) from rfl)]
  simp only [f8, new_i _ _ (LowH.h0 _), w4, t1, t2, t3, got_c, Nat.reduceLT, renP, rowsBy, cBs, cByte, show UInt8.ofNat (UInt8.toNat 97) = 97 from rfl, show UInt8.ofNat (UInt8.toNat 98) = 98 from rfl, beq_rfl, go_sem, reduceIte, reduceCtorEq, Nat.reduceEqDiff, Nat.reduceAdd, Nat.reduceMul, Nat.reduceLeDiff, Nat.reduceSub, Nat.reduceBEq, List.length_cons, List.length_nil, Int.reduceLT, Int.reduceLE, Int.reduceGT, Int.reduceGE, Int.reduceAdd, Int.reduceSub, Int.reduceMul, Int.reduceNeg, Int.reduceToNat, Int.reduceEq, Int.reduceNe, Int.cast_ofNat_Int, ne_eq, not_true_eq_false, not_false_eq_true, Nat.testBit, Nat.reduceShiftRight, Nat.reduceAnd, Nat.reduceBNe]
end Go.Proofs.Ytkliiknolnodjaa.Sx
namespace Go.Proofs.Ytkliiknolnodjaa.Sx
open Go
theorem winR_ok (w : Int) : 1 ≤ winR w ∧ winR w ≤ 64 := by unfold winR; omega
/-- the receiver's own two objects -/
def rV (W got : Int) (mid : Nat) : Ob := .var false [.v (.int .i64 W), .v (.int .i64 got), .m mid]
def rM (L : List Held) : Ob := .map false false false (entsR L)
theorem rV_mask {W got : Int} {mid lo : Nat} (h : mid < lo) : ∀ (m : Nat) (j : List (Nat × Nat)), lo ≤ m → maskO m j (some (rV W got mid)) = some (rV W got mid) := fun m j hm => mask_ints j false W got (by omega)
theorem rM_mask {L : List Held} {lo : Nat} : ∀ (m : Nat) (j : List (Nat × Nat)), lo ≤ m → maskO m j (some (rM L)) = some (rM L) := fun _ _ _ => rfl
theorem arr_mask {f : Bool} {e sz : Nat} {rows : List (List TV)} {lo : Nat} : ∀ (m : Nat) (j : List (Nat × Nat)), lo ≤ m → maskO m j (some (.arr f e sz rows)) = some (.arr f e sz rows) := fun _ _ _ => rfl
/-- of a number's own byte -/
def OwnB (L : List Held) : Prop := ∀ e ∈ L, e.2 = [u8 e.1] ∧ e.1 ≤ 19
def tS (W : Int) (fl : Fl) (l : List Int) (i : Nat) (told : Int) (L : List Held) : St :=
  (⟨(upd (upd (upd (upd Sx.e0 8 (.v (.int .i64 (i : Int)))) 7 (.v (.int .i64 told))) 6 (.p 6 0)) 1 (.v (.sl fl 1 (rowsBy cInt l)))), (upd (upd Sx.h0 10386 (some (rM L))) 6 (some (rV W told 10386)))⟩ : St)
theorem turns_l2 (W g' : Int) (L' : List Held) (fl : Fl) (l : List Int) (i : Nat) (told : Int) (t : List (List UInt8)) (ht : ∀ (k : Nat) (h : k < t.length), t[k] = [u8 (told + 1 + (k : Int))] ∧ told + 1 + (k : Int) ≤ 19) (h0 : 0 ≤ told) (hn : t.length ≤ 1000000) :
    E (cs F) 0 f3_l2 (⟨(upd (upd (upd (upd (upd (upd (upd Sx.e0 12 (.v (.int .i64 0))) 11 (.v (.int .i64 0))) 10 (.s 10 0 t.length)) 8 (.v (.int .i64 (i : Int)))) 7 (.v (.int .i64 told))) 6 (.p 6 0)) 1 (.v (.sl fl 1 (rowsBy cInt l)))), (upd (upd (upd Sx.h0 10386 (some (rM L'))) 10 (some (.arr false 30 1 (rowsBy cBs t)))) 6 (some (rV W g' 10386)))⟩ : St) =
    some (.exit 2, (⟨(upd (upd (upd (upd (upd (upd Sx.e0 11 (.v (.int .i64 0))) 10 (.s 10 0 t.length)) 8 (.v (.int .i64 (i : Int)))) 7 (.v (.int .i64 (told + (t.length : Int))))) 6 (.p 6 0)) 1 (.v (.sl fl 1 (rowsBy cInt l)))), (upd (upd (upd Sx.h0 10386 (some (rM L'))) 10 (some (.arr false 30 1 (rowsBy cBs t)))) 6 (some (rV W g' 10386)))⟩ : St)) := by
  have e0 : (0 : Int) = ((0 : Nat) : Int) := rfl
  have e1 : told = told + ((0 : Nat) : Int) := by omega
  refine Eq.trans (congrArg (E (cs F) 0 f3_l2) ?_) (loop_to (b := f3_b2) (fun q => (⟨(upd (upd (upd (upd (upd (upd (upd Sx.e0 12 (.v (.int .i64 (q : Int)))) 11 (.v (.int .i64 0))) 10 (.s 10 0 t.length)) 8 (.v (.int .i64 (i : Int)))) 7 (.v (.int .i64 (told + (q : Int))))) 6 (.p 6 0)) 1 (.v (.sl fl 1 (rowsBy cInt l)))), (upd (upd (upd Sx.h0 10386 (some (rM L'))) 10 (some (.arr false 30 1 (rowsBy cBs t)))) 6 (some (rV W g' 10386)))⟩ : St)) t.length ?_ ?_ (by simp))
  · rw [← e0, Int.add_zero]
  · intro q hq
    obtain ⟨h1, h2⟩ := ht q hq
    have d1 := dec_lt hq
    have q1 : (q : Int) < (t.length : Int) := by omega
    have hw := wrap_succ hq (by omega)
    have hw2 : IntKind.i64.wrap (told + (q : Int) + 1) = told + ((q + 1 : Nat) : Int) := by rw [wrap64 (by omega) (by omega)]; omega
    have r1 := rowsBy_get cBs hq
    rw [h1] at r1
    have hu : ((u8 (told + 1 + (q : Int))).toNat : Int) = told + ((q + 1 : Nat) : Int) := by rw [u8_toNat]; omega
    have hw3 : IntKind.i64.wrap (told + ((q + 1 : Nat) : Int)) = told + ((q + 1 : Nat) : Int) := wrap64 (by omega) (by omega)
    have r2 : (cBs [u8 (told + 1 + (q : Int))]) = [.sl .shared 1 [[.int .u8 ((u8 (told + 1 + (q : Int))).toNat : Int)]]] := rfl
    rw [r2, hu] at r1
    simp only [f3_b2, rV, rM, d1, q1, hw, hw2, hw3, r1, Nat.reduceLT, go_sem, reduceIte, reduceCtorEq, Nat.reduceEqDiff, Nat.reduceAdd, Nat.reduceMul, Nat.reduceLeDiff, Nat.reduceSub, Nat.reduceBEq, List.length_cons, List.length_nil, Int.reduceLT, Int.reduceLE, Int.reduceGT, Int.reduceGE, Int.reduceAdd, Int.reduceSub, Int.reduceMul, Int.reduceNeg, Int.reduceToNat, Int.reduceEq, Int.reduceNe, Int.cast_ofNat_Int, ne_eq, not_true_eq_false, not_false_eq_true, Nat.testBit, Nat.reduceShiftRight, Nat.reduceAnd, Nat.reduceBNe]
  · have d1 : decide ((t.length : Int) < (t.length : Int)) = false := by simp
    simp only [f3_b2, rV, rM, d1, Nat.reduceLT, go_sem, reduceIte, reduceCtorEq, Nat.reduceEqDiff, Nat.reduceAdd, Nat.reduceMul, Nat.reduceLeDiff, Nat.reduceSub, Nat.reduceBEq, List.length_cons, List.length_nil, Int.reduceLT, Int.reduceLE, Int.reduceGT, Int.reduceGE, Int.reduceAdd, Int.reduceSub, Int.reduceMul, Int.reduceNeg, Int.reduceToNat, Int.reduceEq, Int.reduceNe, Int.cast_ofNat_Int, ne_eq, not_true_eq_false, not_false_eq_true, Nat.testBit, Nat.reduceShiftRight, Nat.reduceAnd, Nat.reduceBNe]
theorem turns_l3 (W g' : Int) (L' : List Held) (fl : Fl) (l : List Int) (i : Nat) (S : List Int) (hS : ∀ (k : Nat) (h : k < S.length), g' + 1 < S[k] ∧ ∀ j (hj : j < k), S[j] < S[k]) (h0 : 0 ≤ g') (h1 : g' ≤ 1000000) (hn : S.length ≤ 1000000) :
    E (cs F) 0 f3_l3 (⟨(upd (upd (upd (upd (upd (upd Sx.e0 14 (.v (.int .i64 0))) 13 (.s 13 0 S.length)) 8 (.v (.int .i64 (i : Int)))) 7 (.v (.int .i64 g'))) 6 (.p 6 0)) 1 (.v (.sl fl 1 (rowsBy cInt l)))), (upd (upd (upd Sx.h0 10386 (some (rM L'))) 13 (some (.arr false 3 1 (rowsBy cInt S)))) 6 (some (rV W g' 10386)))⟩ : St) =
    some (.exit 4, (⟨(upd (upd (upd (upd Sx.e0 8 (.v (.int .i64 (i : Int)))) 7 (.v (.int .i64 g'))) 6 (.p 6 0)) 1 (.v (.sl fl 1 (rowsBy cInt l)))), (upd (upd Sx.h0 10386 (some (rM L'))) 6 (some (rV W g' 10386)))⟩ : St)) := by
  have e0 : (0 : Int) = ((0 : Nat) : Int) := rfl
  refine Eq.trans (congrArg (E (cs F) 0 f3_l3) ?_) (loop_to (b := f3_b3) (fun q => (⟨(upd (upd (upd (upd (upd (upd Sx.e0 14 (.v (.int .i64 (q : Int)))) 13 (.s 13 0 S.length)) 8 (.v (.int .i64 (i : Int)))) 7 (.v (.int .i64 g'))) 6 (.p 6 0)) 1 (.v (.sl fl 1 (rowsBy cInt l)))), (upd (upd (upd Sx.h0 10386 (some (rM L'))) 13 (some (.arr false 3 1 (rowsBy cInt S)))) 6 (some (rV W g' 10386)))⟩ : St)) S.length ?_ ?_ (by simp))
  · rw [← e0]
  · intro q hq
    obtain ⟨h2, h3⟩ := hS q hq
    have d1 := dec_lt hq
    have q1 : (q : Int) < (S.length : Int) := by omega
    have hw := wrap_succ hq (by omega)
    have hw2 : IntKind.i64.wrap (g' + 1) = g' + 1 := wrap64 (by omega) (by omega)
    have r1 := rowsBy_get cInt hq
    have c1 : ¬ S[q] ≤ g' + 1 := by omega
    have r1' : (rowsBy cInt S)[q]? = some [.int .i64 S[q]] := r1
    by_cases hq0 : q = 0
    · subst hq0
      have d1' : decide ((0 : Int) < (S.length : Int)) = true := by simp; omega
      have q1' : (0 : Int) < (S.length : Int) := by omega
      have hw' : IntKind.i64.wrap 1 = 1 := rfl
      simp only [f3_b3, rV, rM, d1', q1', hw', hw2, r1', c1, Nat.reduceLT, decide_false, nat0, show ((0 + 1 : Nat) : Int) = 1 from rfl, show ((1 : Nat) : Int) = 1 from rfl, go_sem, reduceIte, reduceCtorEq, Nat.reduceEqDiff, Nat.reduceAdd, Nat.reduceMul, Nat.reduceLeDiff, Nat.reduceSub, Nat.reduceBEq, List.length_cons, List.length_nil, Int.reduceLT, Int.reduceLE, Int.reduceGT, Int.reduceGE, Int.reduceAdd, Int.reduceSub, Int.reduceMul, Int.reduceNeg, Int.reduceToNat, Int.reduceEq, Int.reduceNe, Int.cast_ofNat_Int, ne_eq, not_true_eq_false, not_false_eq_true, Nat.testBit, Nat.reduceShiftRight, Nat.reduceAnd, Nat.reduceBNe]
    · have q2 : (0 : Int) < (q : Int) := by omega
      have q2' : ((q : Int) > 0) = True := by simp; omega
      have hq1 : q - 1 < S.length := by omega
      have hw3 : IntKind.i64.wrap ((q : Int) - 1) = ((q - 1 : Nat) : Int) := by rw [wrap64 (by omega) (by omega)]; omega
      have q3 : ((q - 1 : Nat) : Int) < (S.length : Int) := by omega
      have r2 : (rowsBy cInt S)[q - 1]? = some [.int .i64 S[q - 1]] := rowsBy_get cInt hq1
      have h4 := h3 (q - 1) (by omega)
      have c2 : ¬ S[q - 1] ≥ S[q] := by omega
      simp only [f3_b3, rV, rM, d1, q1, hw, hw2, hw3, r1', r2, c1, c2, q2', q3, Nat.reduceLT, decide_false, decide_true, go_sem, reduceIte, reduceCtorEq, Nat.reduceEqDiff, Nat.reduceAdd, Nat.reduceMul, Nat.reduceLeDiff, Nat.reduceSub, Nat.reduceBEq, List.length_cons, List.length_nil, Int.reduceLT, Int.reduceLE, Int.reduceGT, Int.reduceGE, Int.reduceAdd, Int.reduceSub, Int.reduceMul, Int.reduceNeg, Int.reduceToNat, Int.reduceEq, Int.reduceNe, Int.cast_ofNat_Int, ne_eq, not_true_eq_false, not_false_eq_true, Nat.testBit, Nat.reduceShiftRight, Nat.reduceAnd, Nat.reduceBNe]
  · have d1 : decide ((S.length : Int) < (S.length : Int)) = false := by simp
    simp only [f3_b3, rV, rM, d1, Nat.reduceLT, go_sem, reduceIte, reduceCtorEq, Nat.reduceEqDiff, Nat.reduceAdd, Nat.reduceMul, Nat.reduceLeDiff, Nat.reduceSub, Nat.reduceBEq, List.length_cons, List.length_nil, Int.reduceLT, Int.reduceLE, Int.reduceGT, Int.reduceGE, Int.reduceAdd, Int.reduceSub, Int.reduceMul, Int.reduceNeg, Int.reduceToNat, Int.reduceEq, Int.reduceNe, Int.cast_ofNat_Int, ne_eq, not_true_eq_false, not_false_eq_true, Nat.testBit, Nat.reduceShiftRight, Nat.reduceAnd, Nat.reduceBNe]
theorem turns_b (W : Int) (fl : Fl) (l : List Int) (i : Nat) (told : Int) (L : List Held) (hK : Keeps W told L) (hO : OwnB L) (hT : told ≤ 19) (hi : i < l.length) (hi2 : i < 150) :
    ∃ told' L', Keeps W told' L' ∧ OwnB L' ∧ told' ≤ 19 ∧ E (cs F) 0 f3_b1 (tS W fl l i told L) = some (.norm, tS W fl l (i + 1) told' L') := by
  obtain ⟨n, hn⟩ : ∃ n, n = (l[i]).tmod 20 := ⟨_, rfl⟩
  have hnb : n ≤ 19 := by have := Int.tmod_lt_of_pos l[i] (show (0 : Int) < 20 by omega); omega
  have hR : ∀ lo, 10386 < lo → RecvAt (upd (upd (upd h0 10386 (some (.map false false false (entsR L)))) 6 (some (.var false [.v (.int .i64 W), .v (.int .i64 told), .m 10386]))) 44 (some (.arr false 5 1 [[.int .u8 (IntKind.u8.wrap n)]]))) lo 6 10386 W told L := fun lo h =>
    (RecvAt.mk0 (by omega) h (by decide) W told L).more (by omega) (by decide) (by decide) arr_mask
  have hp := hK.pos
  have hw := hK.win
  have hlen := hK.len
  have r1 : (rowsBy cInt l)[i]? = some [.int .i64 l[i]] := rowsBy_get cInt hi
  have d1 := dec_lt hi
  have d2 : decide ((i : Int) < 150) = true := by simp; omega
  have q1 : (i : Int) < (l.length : Int) := by omega
  have i0 : (0 : Int) ≤ (i : Int) := by omega
  have hwi : IntKind.i64.wrap ((i : Int) + 1) = ((i + 1 : Nat) : Int) := by rw [wrap64 (by omega) (by omega)]; omega
  by_cases hm : mayR W told L n
  · obtain ⟨t, L', hd0, hK', hti, hL'⟩ := hK.take [u8 n] hm
    have hO2 : ∀ e ∈ L ++ [(n, [u8 n])], e.2 = [u8 e.1] ∧ e.1 ≤ 19 := fun e he => by
      rcases List.mem_append.1 he with he | he
      · exact hO e he
      · simp only [List.mem_singleton] at he; subst he; exact ⟨rfl, hnb⟩
    have hO' : OwnB L' := fun e he => hO2 e ((hL' e).1 he).1
    have ht : ∀ (k : Nat) (h : k < t.length), t[k] = [u8 (told + 1 + (k : Int))] ∧ told + 1 + (k : Int) ≤ 19 := fun k h => hO2 _ (hti k h)
    have hT' : told + (t.length : Int) ≤ 19 := by
      by_cases h : t.length = 0
      · omega
      · have := (ht (t.length - 1) (by omega)).2; omega
    have t1 := take_to (lo := 2000000) (by decide) (hR 2000000 (by omega)) hp (by omega) hw (by omega) (seq := n) [u8 n] (by simp) hm (.s 44 0 1) (.inr ⟨44, false, rfl, by decide, by rw [u8_row]; rfl⟩) hd0
    have hp' := hK'.pos
    have hlen' := hK'.len
    have hbd' : ∀ x ∈ L'.map (·.1), -9223372036854775808 ≤ x ∧ x ≤ 9223372036854775807 := fun x hx => by
      obtain ⟨e, he, rfl⟩ := List.mem_map.1 hx
      have := hK'.rng e he
      omega
    have l3 := turns_l3 W (told + (t.length : Int)) L' fl l i (sortI (L'.map (·.1))) (fun k h => by
      obtain ⟨h1, h2⟩ := sortI_get hK'.nd h
      obtain ⟨e, he, h3⟩ := List.mem_map.1 h1
      have := hK'.rng e he
      exact ⟨by rw [← h3]; omega, h2⟩) hp' (by omega) (by rw [sortI_len, List.length_map]; omega)
    rw [sortI_len, List.length_map] at l3
    have h64 : ¬ (L'.length : Int) > 64 := by omega
    refine ⟨told + (t.length : Int), L', hK', hO', hT', ?_⟩
    have hn' := hn.symm
    by_cases hte : t = []
    · subst hte
      have hR2 : RecvAt (upd (upd h0 10386 (some (.map false false false (entsR L')))) 6 (some (.var false [.v (.int .i64 W), .v (.int .i64 (told + (([] : List (List UInt8)).length : Int))), .m 10386]))) 3000000 6 10386 W (told + (([] : List (List UInt8)).length : Int)) L' := RecvAt.mk0 (by omega) (by decide) (by decide) W _ L'
      have hd := held_i hR2 (by omega) hK'.nd hbd'
      have e1 : told + (([] : List (List UInt8)).length : Int) = told := by simp
      rw [e1] at t1 l3 hd ⊢
      simp only [toldL, toldH, reH, if_true, rV, rM] at t1 l3
      simp only [f3_b1, tS, rV, rM, r1, d1, d2, q1, i0, hwi, t1, hd, l3, got_c, h64, decide_false, decide_true, Nat.reduceLT, renP, hn', f3_l2_eq, f3_b2, go_sem, reduceIte, reduceCtorEq, Nat.reduceEqDiff, Nat.reduceAdd, Nat.reduceMul, Nat.reduceLeDiff, Nat.reduceSub, Nat.reduceBEq, List.length_cons, List.length_nil, Int.reduceLT, Int.reduceLE, Int.reduceGT, Int.reduceGE, Int.reduceAdd, Int.reduceSub, Int.reduceMul, Int.reduceNeg, Int.reduceToNat, Int.reduceEq, Int.reduceNe, Int.cast_ofNat_Int, ne_eq, not_true_eq_false, not_false_eq_true, Nat.testBit, Nat.reduceShiftRight, Nat.reduceAnd, Nat.reduceBNe]
    · have l2 := turns_l2 W (told + (t.length : Int)) L' fl l i told t ht hp (by omega)
      have hR2 : RecvAt (upd (upd (upd h0 10386 (some (.map false false false (entsR L')))) 10 (some (.arr false 30 1 (rowsBy cBs t)))) 6 (some (.var false [.v (.int .i64 W), .v (.int .i64 (told + (t.length : Int))), .m 10386]))) 3000000 6 10386 W (told + (t.length : Int)) L' :=
        ⟨(((LowH.h0 _).upd (by decide) rM_mask).upd (by decide) arr_mask).upd (by decide) (rV_mask (by decide)), by decide, by decide, by decide, rfl, rfl⟩
      have hd := held_i hR2 (by omega) hK'.nd hbd'
      simp only [toldL, toldH, reH, if_neg hte, rV, rM] at t1 l2 l3
      have hz : ¬ (0 : Int) = 0 ↔ False := by simp
      simp only [f3_b1, tS, rV, rM, r1, d1, d2, q1, i0, hwi, t1, hd, l2, l3, got_c, h64, decide_false, decide_true, Nat.reduceLT, renP, hn', go_sem, reduceIte, reduceCtorEq, Nat.reduceEqDiff, Nat.reduceAdd, Nat.reduceMul, Nat.reduceLeDiff, Nat.reduceSub, Nat.reduceBEq, List.length_cons, List.length_nil, Int.reduceLT, Int.reduceLE, Int.reduceGT, Int.reduceGE, Int.reduceAdd, Int.reduceSub, Int.reduceMul, Int.reduceNeg, Int.reduceToNat, Int.reduceEq, Int.reduceNe, Int.cast_ofNat_Int, ne_eq, not_true_eq_false, not_false_eq_true, Nat.testBit, Nat.reduceShiftRight, Nat.reduceAnd, Nat.reduceBNe]
  · have t1 := take_no (lo := 2000000) (by decide) (hR 2000000 (by omega)) hp (by omega) hw (seq := n) (.s 44 0 1) rfl hm
    have hR2 : RecvAt (upd (upd h0 10386 (some (.map false false false (entsR L)))) 6 (some (.var false [.v (.int .i64 W), .v (.int .i64 told), .m 10386]))) 3000000 6 10386 W told L := RecvAt.mk0 (by omega) (by decide) (by decide) W told L
    have hd := held_i hR2 (by omega) hK.nd (fun x hx => by
      obtain ⟨e, he, rfl⟩ := List.mem_map.1 hx
      have := hK.rng e he
      omega)
    have l3 := turns_l3 W told L fl l i (sortI (L.map (·.1))) (fun k h => by
      obtain ⟨h1, h2⟩ := sortI_get hK.nd h
      obtain ⟨e, he, h3⟩ := List.mem_map.1 h1
      have := hK.rng e he
      exact ⟨by rw [← h3]; omega, h2⟩) hp (by omega) (by rw [sortI_len, List.length_map]; omega)
    rw [sortI_len, List.length_map] at l3
    simp only [toldL, if_true, rV, rM] at t1 l3
    have h64 : ¬ (L.length : Int) > 64 := by omega
    have c0 : (0 : Int) < 0 ↔ False := by simp
    refine ⟨told, L, hK, hO, hT, ?_⟩
    simp only [f3_b1, tS, rV, rM, r1, d1, d2, q1, i0, hwi, t1, hd, l3, got_c, h64, decide_false, decide_true, Nat.reduceLT, renP, hn.symm, f3_l2_eq, f3_b2, go_sem, reduceIte, reduceCtorEq, Nat.reduceEqDiff, Nat.reduceAdd, Nat.reduceMul, Nat.reduceLeDiff, Nat.reduceSub, Nat.reduceBEq, List.length_cons, List.length_nil, Int.reduceLT, Int.reduceLE, Int.reduceGT, Int.reduceGE, Int.reduceAdd, Int.reduceSub, Int.reduceMul, Int.reduceNeg, Int.reduceToNat, Int.reduceEq, Int.reduceNe, Int.cast_ofNat_Int, ne_eq, not_true_eq_false, not_false_eq_true, Nat.testBit, Nat.reduceShiftRight, Nat.reduceAnd, Nat.reduceBNe]
theorem turns_l (W : Int) (fl : Fl) (l : List Int) : ∀ (m i : Nat) (told : Int) (L : List Held), min l.length 150 - i = m → Keeps W told L → OwnB L → told ≤ 19 → E (cs F) 0 f3_l1 (tS W fl l i told L) = some (.exit 0, ⟨Sx.e0, Sx.h0⟩) := by
  intro m
  induction m with
  | zero =>
    intro i told L hm hK hO hT
    rw [f3_l1_eq]
    by_cases hi : i < l.length
    · have d1 := dec_lt hi
      have d2 : decide ((i : Int) < 150) = false := by simp; omega
      simp only [f3_b1, tS, d1, d2, rV, rM, Nat.reduceLT, decide_true, decide_false, go_sem, reduceIte, reduceCtorEq, Nat.reduceEqDiff, Nat.reduceAdd, Nat.reduceMul, Nat.reduceLeDiff, Nat.reduceSub, Nat.reduceBEq, List.length_cons, List.length_nil, Int.reduceLT, Int.reduceLE, Int.reduceGT, Int.reduceGE, Int.reduceAdd, Int.reduceSub, Int.reduceMul, Int.reduceNeg, Int.reduceToNat, Int.reduceEq, Int.reduceNe, Int.cast_ofNat_Int, ne_eq, not_true_eq_false, not_false_eq_true, Nat.testBit, Nat.reduceShiftRight, Nat.reduceAnd, Nat.reduceBNe]
    · have d1 := dec_ge (i := i) (n := l.length) (by omega)
      simp only [f3_b1, tS, d1, rV, rM, Nat.reduceLT, decide_true, decide_false, go_sem, reduceIte, reduceCtorEq, Nat.reduceEqDiff, Nat.reduceAdd, Nat.reduceMul, Nat.reduceLeDiff, Nat.reduceSub, Nat.reduceBEq, List.length_cons, List.length_nil, Int.reduceLT, Int.reduceLE, Int.reduceGT, Int.reduceGE, Int.reduceAdd, Int.reduceSub, Int.reduceMul, Int.reduceNeg, Int.reduceToNat, Int.reduceEq, Int.reduceNe, Int.cast_ofNat_Int, ne_eq, not_true_eq_false, not_false_eq_true, Nat.testBit, Nat.reduceShiftRight, Nat.reduceAnd, Nat.reduceBNe]
  | succ m ih =>
    intro i told L hm hK hO hT
    obtain ⟨told', L', h1, h2, h3, h4⟩ := turns_b W fl l i told L hK hO hT (by omega) (by omega)
    rw [f3_l1_eq, h4]
    exact ih (i + 1) told' L' (by omega) h1 h2 h3
theorem t_turns (w : Int) (fl : Fl) (l : List Int) : call F 3 [.int .i64 w, .sl fl 1 (rowsBy cInt l)] = some (.bool true) := by
  have hl := turns_l (winR w) fl l _ 0 0 [] rfl (Keeps.new (winR_ok w)) (fun e he => by simp at he) (by decide)
  have e0 : entsR [] = [] := rfl
  simp only [tS, rV, rM, e0, nat0] at hl
  rw [call_code F (show F 3 = some (.code f3) from rfl)]
  simp only [f3, t_shown, new_i _ _ (LowH.h0 _), hl, Nat.reduceLT, renP, go_sem, reduceIte, reduceCtorEq, Nat.reduceEqDiff, Nat.reduceAdd, Nat.reduceMul, Nat.reduceLeDiff, Nat.reduceSub, Nat.reduceBEq, List.length_cons, List.length_nil, Int.reduceLT, Int.reduceLE, Int.reduceGT, Int.reduceGE, Int.reduceAdd, Int.reduceSub, Int.reduceMul, Int.reduceNeg, Int.reduceToNat, Int.reduceEq, Int.reduceNe, Int.cast_ofNat_Int, ne_eq, not_true_eq_false, not_false_eq_true, Nat.testBit, Nat.reduceShiftRight, Nat.reduceAnd, Nat.reduceBNe]
end Go.Proofs.Ytkliiknolnodjaa.Sx

/- The transaction log as plain data, and how it lies in memory. -/
import Derived.Test.YtapkmgmcccgejaaLv
namespace Go.Proofs.Ytapkmgmcccgejaa
open Go.RowKit

/-- A transaction. -/
structure Tx where
  state : Int
  csn : Int
  snap : Int
  reads : Bool

def Tx.zero : Tx := ⟨0, 0, 0, false⟩

/-- Transactions, in the order of their numbers (from 1 on), and the clock. -/
structure LogM where
  txs : List Tx
  clock : Int

namespace LogM
def n (L : LogM) : Nat := L.txs.length
def get (L : LogM) (x : Int) : Option Tx := if 1 ≤ x then L.txs[x.toNat - 1]? else none
def one (L : LogM) (x : Int) : Tx := (L.get x).getD Tx.zero
def state (L : LogM) (x : Int) : Int := (L.one x).state
def csn (L : LogM) (x : Int) : Int := (L.one x).csn
def snapshot (L : LogM) (x : Int) : Int := (L.one x).snap
def reads (L : LogM) (x : Int) : Bool := (L.one x).reads
def isTx (L : LogM) (x : Int) : Bool := decide (1 ≤ x ∧ x ≤ L.n)
def sees (L : LogM) (x y : Int) : Bool :=
  if L.isTx x = true ∧ L.isTx y = true then decide (x = y) || (decide (L.state y = 2) && decide (L.csn y ≤ L.snapshot x)) else false
def set (L : LogM) (x : Int) (t : Tx) : LogM := { L with txs := L.txs.set (x.toNat - 1) t }
def begin (L : LogM) (r : Bool) : LogM := if L.n = 200 then L else { L with txs := L.txs ++ [⟨1, 0, L.clock, r⟩] }
def commit (L : LogM) (x : Int) : LogM :=
  if L.state x = 1 then { txs := L.txs.set (x.toNat - 1) { L.one x with state := 2, csn := L.clock + 1 }, clock := L.clock + 1 } else L
def abort (L : LogM) (x : Int) : LogM :=
  if L.state x = 1 then { L with txs := L.txs.set (x.toNat - 1) { L.one x with state := 3 } } else L
/-- How many were committed. -/
def committed (L : LogM) : Nat := L.txs.countP (fun t => decide (t.state = 2))
structure Ok (L : LogM) : Prop where
  n : L.n ≤ 200
  clock : L.clock = L.committed
  state : ∀ t ∈ L.txs, t.state = 1 ∨ t.state = 2 ∨ t.state = 3

def empty : LogM := ⟨[], 0⟩

theorem get_none {L : LogM} {x : Int} (h : L.isTx x = false) : L.get x = none := by
  simp only [isTx, decide_eq_false_iff_not] at h
  unfold get
  split
  · rename_i h1
    rw [List.getElem?_eq_none_iff]; unfold n at h; omega
  · rfl

theorem get_some {L : LogM} {x : Int} (h : L.isTx x = true) : L.get x = some (L.one x) := by
  simp only [isTx, decide_eq_true_eq] at h
  unfold one get
  rw [if_pos h.1]
  have : x.toNat - 1 < L.txs.length := by unfold n at h; omega
  simp [List.getElem?_eq_getElem this]

theorem one_none {L : LogM} {x : Int} (h : L.isTx x = false) : L.one x = Tx.zero := by
  unfold one; rw [get_none h]; rfl

theorem state_isTx {L : LogM} {x : Int} (h : L.state x ≠ 0) : L.isTx x = true := by
  cases hx : L.isTx x with
  | true => rfl
  | false => exact absurd (by unfold state; rw [one_none hx]; rfl) h

theorem one_mem {L : LogM} {x : Int} (h : L.isTx x = true) : L.one x ∈ L.txs := by
  have := get_some h
  unfold get at this
  split at this
  · exact List.mem_of_getElem? this
  · cases this

theorem Ok.clock_le {L : LogM} (h : L.Ok) : 0 ≤ L.clock ∧ L.clock ≤ 200 := by
  have h1 := h.n; have h2 := h.clock
  have : L.committed ≤ L.txs.length := List.countP_le_length
  unfold LogM.n at h1; omega

theorem Ok.begin {L : LogM} (h : L.Ok) (r : Bool) : (L.begin r).Ok := by
  have h1 := h.n; have h2 := h.clock
  unfold LogM.begin
  by_cases hn : L.n = 200
  · rw [if_pos hn]; exact h
  · rw [if_neg hn]
    refine ⟨by simp only [LogM.n] at *; simp; omega, ?_, ?_⟩
    · simp only [committed, List.countP_append] at *; simp [h2]
    · intro t ht
      simp at ht
      rcases ht with ht | rfl
      · exact h.state t ht
      · exact Or.inl rfl

theorem countP_set_of {l : List Tx} {p : Tx → Bool} {i : Nat} {a t : Tx} (h : l[i]? = some a) (ha : p a = false) : (l.set i t).countP p = l.countP p + (if p t then 1 else 0) := by
  induction l generalizing i with
  | nil => simp at h
  | cons b l ih =>
    cases i with
    | zero =>
      simp at h; subst h
      simp [List.countP_cons, ha]
    | succ i =>
      simp at h
      simp [List.countP_cons, ih h]; omega

theorem txs_at {L : LogM} {x : Int} (h : L.isTx x = true) : L.txs[x.toNat - 1]? = some (L.one x) := by
  have h1 := get_some h
  unfold get at h1
  split at h1
  · exact h1
  · cases h1

theorem Ok.commit {L : LogM} (h : L.Ok) (x : Int) : (L.commit x).Ok := by
  unfold LogM.commit
  by_cases hs : L.state x = 1
  · rw [if_pos hs]
    have hx : L.isTx x = true := state_isTx (by rw [hs]; omega)
    refine ⟨by have := h.n; simp only [LogM.n] at *; simpa using this, ?_, ?_⟩
    · have h2 := h.clock
      simp only [committed] at *
      rw [countP_set_of (txs_at hx) (by simp; unfold LogM.state at hs; omega)]
      simp [h2]
    · intro t ht
      rcases List.mem_or_eq_of_mem_set ht with ht | rfl
      · exact h.state t ht
      · exact Or.inr (Or.inl rfl)
  · rw [if_neg hs]; exact h

theorem Ok.abort {L : LogM} (h : L.Ok) (x : Int) : (L.abort x).Ok := by
  unfold LogM.abort
  by_cases hs : L.state x = 1
  · rw [if_pos hs]
    have hx : L.isTx x = true := state_isTx (by rw [hs]; omega)
    refine ⟨by have := h.n; simp only [LogM.n] at *; simpa using this, ?_, ?_⟩
    · have h2 := h.clock
      simp only [committed] at *
      rw [countP_set_of (txs_at hx) (by simp; unfold LogM.state at hs; omega)]
      simp [h2]
    · intro t ht
      rcases List.mem_or_eq_of_mem_set ht with ht | rfl
      · exact h.state t ht
      · exact Or.inr (Or.inr rfl)
  · rw [if_neg hs]; exact h

theorem Ok.empty : empty.Ok := ⟨by simp [LogM.n, LogM.empty], by simp [LogM.empty, committed], by simp [LogM.empty]⟩
end LogM

/-- Block b is the log L. -/
structure LogAt (w : World) (b : Nat) (L : LogM) : Prop where
  blk : OpenBlk w b 58 806
  cn : w.cell? ⟨b, 804, none⟩ = some (.int .i64 L.n)
  cc : w.cell? ⟨b, 805, none⟩ = some (.int .i64 L.clock)
  ct : ∀ i t, L.txs[i]? = some t → w.cell? ⟨b, 4 * (i + 1), none⟩ = some (.int .i64 t.state) ∧ w.cell? ⟨b, 4 * (i + 1) + 1, none⟩ = some (.int .i64 t.csn)
    ∧ w.cell? ⟨b, 4 * (i + 1) + 2, none⟩ = some (.int .i64 t.snap) ∧ w.cell? ⟨b, 4 * (i + 1) + 3, none⟩ = some (.bool t.reads)
  ok : L.Ok

theorem LogAt.tur {S : Nat → Prop} {w w' : World} {b : Nat} {L : LogM} (h : LogAt w b L) (t : Tur S w w') (hn : ¬ S b) : LogAt w' b L := by
  have hl : b < w.heap.size := h.blk.lt
  have hc : ∀ o, w'.cell? ⟨b, o, none⟩ = w.cell? ⟨b, o, none⟩ := fun o => t.cell (p := ⟨b, o, none⟩) hl hn
  exact ⟨h.blk.tur t hn, (hc _).trans h.cn, (hc _).trans h.cc, fun i x hx => by simpa only [hc] using h.ct i x hx, h.ok⟩

theorem LogAt.tx {w : World} {b : Nat} {L : LogM} (h : LogAt w b L) {x : Int} (hx : L.isTx x = true) :
    w.cell? ⟨b, x.toNat * 4, none⟩ = some (.int .i64 (L.state x)) ∧ w.cell? ⟨b, x.toNat * 4 + 1, none⟩ = some (.int .i64 (L.csn x))
    ∧ w.cell? ⟨b, x.toNat * 4 + 2, none⟩ = some (.int .i64 (L.snapshot x)) ∧ w.cell? ⟨b, x.toNat * 4 + 3, none⟩ = some (.bool (L.reads x)) := by
  have := h.ct _ _ (LogM.txs_at hx)
  simp only [LogM.isTx, decide_eq_true_eq] at hx
  rwa [show 4 * (x.toNat - 1 + 1) = x.toNat * 4 from by omega] at this

/-- A store into one of a transaction's cells. -/
theorem LogAt.store {w : World} {b : Nat} {L : LogM} (h : LogAt w b L) {x : Int} (hx : L.isTx x = true) (t' : Tx) (L' : LogM) (hL : L'.txs = L.txs.set (x.toNat - 1) t') (hk : L'.clock = L.clock) (hok : L'.Ok) {w' : World}
    (hb : OpenBlk w' b 58 806)
    (hsame : ∀ o, (o < x.toNat * 4 ∨ x.toNat * 4 + 4 ≤ o) → w'.cell? ⟨b, o, none⟩ = w.cell? ⟨b, o, none⟩)
    (h0 : w'.cell? ⟨b, x.toNat * 4, none⟩ = some (.int .i64 t'.state)) (h1 : w'.cell? ⟨b, x.toNat * 4 + 1, none⟩ = some (.int .i64 t'.csn))
    (h2 : w'.cell? ⟨b, x.toNat * 4 + 2, none⟩ = some (.int .i64 t'.snap)) (h3 : w'.cell? ⟨b, x.toNat * 4 + 3, none⟩ = some (.bool t'.reads)) : LogAt w' b L' := by
  simp only [LogM.isTx, decide_eq_true_eq] at hx
  have hn := h.ok.n
  have en : L'.n = L.n := by simp [LogM.n, hL]
  refine ⟨hb, ?_, ?_, ?_, hok⟩
  · rw [hsame _ (by omega), en]; exact h.cn
  · rw [hsame _ (by omega), hk]; exact h.cc
  · intro i t ht
    rw [hL, List.getElem?_set] at ht
    by_cases e : x.toNat - 1 = i
    · rw [if_pos e] at ht
      have ei : i + 1 = x.toNat := by omega
      have hlt : i < L.txs.length := by unfold LogM.n at hx; omega
      rw [e, if_pos hlt] at ht
      cases ht
      rw [show 4 * (i + 1) = x.toNat * 4 from by omega]; exact ⟨h0, h1, h2, h3⟩
    · rw [if_neg e] at ht
      have := h.ct i t ht
      rw [hsame _ (by omega), hsame _ (by omega), hsame _ (by omega), hsame _ (by omega)]
      exact this

end Go.Proofs.Ytapkmgmcccgejaa

/- What one saw who runs, and how it stays: in memory. -/
import Derived.Test.YtapkmgmcccgejaaStays
import Derived.Test.YtapkmgmcccgejaaOneW
namespace Go.Proofs.Ytapkmgmcccgejaa
open Go.RowKit Go.Shelf

theorem TabsAt.turK {S : Nat → Prop} {w w' : World} {B : Nat} {v : Value} {ts : List Tab} {cvs : List Value} (h : TabsAt w B v ts cvs) (t : Tur S w w') (hS : ∀ k, B ≤ k → (KindAt w k 0 ∨ KindAt w k 3) → ¬ S k) (hc : ∀ cv ∈ cvs, ∀ g, cv.ownBlock = some g → B ≤ g) : TabsAt w' B v ts cvs :=
  ⟨ownsRow_tur h.own t (fun g hg => hS g (ownsRow_ge h.own hg) (.inl (h.kind hg))), h.len, fun i x cv hx hcv => (h.cols i x cv hx hcv).tur t (fun g hg => hS g (hc cv (List.mem_of_getElem? hcv) g hg) (.inr ((h.cols i x cv hx hcv).kind hg)))⟩

theorem TabsAt.ge {w : World} {B : Nat} {v : Value} {ts : List Tab} {cvs : List Value} (h : TabsAt w B v ts cvs) : ∀ cv ∈ cvs, ∀ g, cv.ownBlock = some g → B ≤ g := by
  intro cv hcv g hg
  obtain ⟨i, hi⟩ := List.getElem?_of_mem hcv
  have hl : i < ts.length := by rw [← h.len]; exact (List.getElem?_eq_some_iff.1 hi).1
  exact (h.cols i _ cv (List.getElem?_eq_getElem hl) hi).block_ge hg

/-- Transaction q saw the tables in the slice was, and sees them still. -/
structure Saw (w : World) (lb : Nat) (q : Int) (was : Value) (L : LogM) (N : NM) : Prop where
  ne : q ≠ 0
  ex : ∃ S ts cvs B, Me L q S ∧ TabsAt w B was ts cvs ∧ lb < B ∧ ts.Perm (N.all L q) ∧ NameSorted ts

section
variable {w w' : World} {lb B : Nat} {q : Int} {was : Value} {L L' : LogM} {N : NM}

theorem Saw.quiet (h : Saw w lb q was L N) (t : Tur None' w w') : Saw w' lb q was L N := by
  obtain ⟨hq, S, ts, cvs, B, h1, h2, h3⟩ := h
  exact ⟨hq, S, ts, cvs, B, h1, h2.tur0 t, h3⟩

theorem Saw.log (h : Saw w lb q was L N) (t : Tur (· = lb) w w') (hm : ∀ S, Me L q S → Me L' q S ∧ SeesSame L L' q) : Saw w' lb q was L' N := by
  obtain ⟨hq, S, ts, cvs, B, h1, h2, h3, h4, h5⟩ := h
  obtain ⟨m1, m2⟩ := hm S h1
  refine ⟨hq, S, ts, cvs, B, m1, h2.turK t (fun k hk _ e => by omega) h2.ge, h3, ?_, h5⟩
  rw [see_same h1 m1 m2]; exact h4

theorem Saw.nam {N' : NM} (h : Saw w lb q was L N) (t : Tur (PutS w B) w w') (ha : ∀ S, Me L q S → N'.all L q = N.all L q) : Saw w' lb q was L N' := by
  obtain ⟨hq, S, ts, cvs, B', h1, h2, h3, h4, h5⟩ := h
  refine ⟨hq, S, ts, cvs, B', h1, h2.turK t (fun k hk hkd e => ?_) h2.ge, h3, ?_, h5⟩
  · rcases e.2 with e1 | e1 <;> rcases hkd with h6 | h6 <;> have := h6.fn e1 <;> omega
  · rw [ha S h1]; exact h4

theorem Saw.same (h : Saw w lb q was L N) (hw : N.Wf) {v : Value} {ts : List Tab} {cvs : List Value} {B : Nat} (hta : TabsAt w B v ts cvs) (hp : ts.Perm (N.all L q)) (hs : NameSorted ts) : TabsR w v ts ∧ TabsR w was ts := by
  obtain ⟨hq, S, ts', cvs', B', h1, h2, h3, h4, h5⟩ := h
  have e : ts' = ts := sorted_same (hw.names L q) h4 hp h5 hs
  subst e
  exact ⟨hta.r, h2.r⟩
end

theorem n_begin (L : LogM) (r : Bool) : (L.begin r).n ≤ L.n + 1 := by
  unfold LogM.begin
  split
  · omega
  · simp [LogM.n]
theorem n_commit (L : LogM) (x : Int) : (L.commit x).n = L.n := by
  unfold LogM.commit
  split
  · simp [LogM.n]
  · rfl
theorem n_abort (L : LogM) (x : Int) : (L.abort x).n = L.n := by
  unfold LogM.abort
  split
  · simp [LogM.n]
  · rfl

/-- Whoever begins runs. -/
theorem me_begins {L : LogM} (h : L.n ≠ 200) (r : Bool) : Me (L.begin r) (L.n + 1) L.clock := by
  obtain ⟨h1, h2⟩ := begin_txs (r := r) h
  have hone := LogM.one_push h1
  refine ⟨?_, ?_, by rw [h2]; omega⟩
  · unfold LogM.state; rw [hone, if_pos rfl]
  · unfold LogM.snapshot; rw [hone, if_pos rfl]

/-- Columns of a step lie in no block that names turn. -/
theorem ColsAt.free {w : World} {v : Value} {cols : List Col} {blk k B : Nat} (h : ColsAt w v cols blk) (hb : cols ≠ [] → blk < k) (hB : k < B) : ∃ blk', blk' < B ∧ ColsAt w v cols blk' := by
  by_cases hc : cols = []
  · refine ⟨k, hB, ?_⟩
    subst hc
    obtain ⟨⟨a, cap, off, rfl, _, _⟩, h2, h3⟩ := h
    exact ⟨⟨a, cap, off, rfl, fun h => absurd rfl h, fun i c hi => by simp at hi⟩, h2, h3⟩
  · exact ⟨blk, by have := hb hc; omega, h⟩

/-- Where a round of NameStays stands. -/
def Round (w : World) (lb : Nat) (k0 i : Nat) (q : Int) (was : Value) (L : LogM) (N : NM) : Prop :=
  (i ≤ k0 ∧ q = 0 ∧ was = .slice none 0 0 ∧ L.n ≤ i) ∨ (k0 < i ∧ Saw w lb q was L N)

end Go.Proofs.Ytapkmgmcccgejaa

/- Words for worlds: what a call may have turned; facts that pass from world to world. -/
import Derived.WalkKit
import Derived.WalkSpells
import Derived.WalkLawsBesides
import Derived.MapKept
import Derived.Lib.Hide
namespace Go.Proofs.Ytapkmgmcccgejaa
open Go.RowKit

/-- A float is stored as any one cell is. -/
theorem run_store_float {P : Program} {w : World} {a : Addr} {m : Mode} (k : FloatKind) (n : Nat) : (store a (.float k n) m).run P w = stored P w a (.float k n) m := run_store P w a _ m rfl
theorem run_store_mapv {P : Program} {w : World} {a : Addr} {m : Mode} (r : Option Nat) : (store a (.map r) m).run P w = stored P w a (.map r) m := run_store P w a _ m rfl
attribute [go_sem] run_store_float run_store_mapv

/-- w' is w but for the blocks of which S holds, and new ones. -/
structure Tur (S : Nat → Prop) (w w' : World) : Prop where
  os : w'.os = w.os
  tape : w'.tape = w.tape
  output : w'.output = w.output
  size : w.heap.size ≤ w'.heap.size
  block : ∀ k, k < w.heap.size → ¬ S k → w'.heap[k]? = w.heap[k]?

theorem Tur.refl (S : Nat → Prop) (w : World) : Tur S w w := ⟨rfl, rfl, rfl, Nat.le_refl _, fun _ _ _ => rfl⟩

theorem Tur.trans {S S' : Nat → Prop} {a b c : World} (h : Tur S a b) (k : Tur S' b c) (hS : ∀ j, j < a.heap.size → S' j → S j) : Tur S a c :=
  ⟨k.os.trans h.os, k.tape.trans h.tape, k.output.trans h.output, Nat.le_trans h.size k.size,
   fun j hj hn => (k.block j (Nat.lt_of_lt_of_le hj h.size) (fun e => hn (hS j hj e))).trans (h.block j hj hn)⟩

theorem Tur.mono {S S' : Nat → Prop} {a b : World} (h : Tur S a b) (hS : ∀ j, j < a.heap.size → S j → S' j) : Tur S' a b :=
  ⟨h.os, h.tape, h.output, h.size, fun j hj hn => h.block j hj (fun e => hn (hS j hj e))⟩

theorem Tur.alloc {S : Nat → Prop} {a w : World} (h : Tur S a w) (o : Obj) : Tur S a (w.alloc o) :=
  ⟨h.os, h.tape, h.output, by have := h.size; simp; omega, fun j hj hn => by
    rw [Below.heap_alloc _ _ _ (Nat.lt_of_lt_of_le hj h.size)]; exact h.block j hj hn⟩

theorem Tur.drew {S : Nat → Prop} {a w : World} (h : Tur S a w) : Tur S a w.drew := ⟨h.os, h.tape, h.output, h.size, h.block⟩

theorem Tur.drewN {S : Nat → Prop} {a w : World} (h : Tur S a w) (n : Nat) : Tur S a (w.drewN n) := ⟨h.os, h.tape, h.output, h.size, h.block⟩

theorem Tur.setCell {S : Nat → Prop} {a w : World} (h : Tur S a w) {p : Addr} (hp : p.block < a.heap.size → S p.block) (u : Value) : Tur S a (w.setCell p u) :=
  ⟨h.os, h.tape, h.output, by have := h.size; simp [World.setCell]; omega, fun j hj hn => by
    rw [Below.heap_setCell _ _ _ _ (fun e => hn (by subst e; exact hp hj))]; exact h.block j hj hn⟩

theorem Tur.grown {S : Nat → Prop} {a w w' : World} {row : Option Nat} (h : Tur S a w) (hg : w.grownBy w' row) (hr : ∀ k, row = some k → k < a.heap.size → S k) : Tur S a w' :=
  ⟨hg.os.trans h.os, hg.tape.trans h.tape, hg.output.trans h.output, Nat.le_trans h.size hg.size, fun j hj hn =>
    (hg.block j (Nat.lt_of_lt_of_le hj h.size) (fun e => hn (hr j e.symm hj))).trans (h.block j hj hn)⟩

theorem Tur.of_below {w w' : World} (h : Below w.heap.size w w') (S : Nat → Prop) : Tur S w w' := ⟨h.os, h.tape, h.output, h.size, fun k hk _ => h.block k hk⟩

/-- What turned lies from B on: so nothing below B has turned. -/
theorem Tur.below {S : Nat → Prop} {w w' : World} (h : Tur S w w') {B : Nat} (hB : B ≤ w.heap.size) (hS : ∀ k, S k → B ≤ k) : Below B w w' :=
  ⟨h.os, h.tape, h.output, h.size, fun k hk => h.block k (Nat.lt_of_lt_of_le hk hB) (fun e => by have := hS k e; omega)⟩

def None' : Nat → Prop := fun _ => False

theorem Tur.below0 {w w' : World} (h : Tur None' w w') : Below w.heap.size w w' := h.below (Nat.le_refl _) (fun _ e => e.elim)

theorem Tur.cell {S : Nat → Prop} {w w' : World} (h : Tur S w w') {p : Addr} (hp : p.block < w.heap.size) (hn : ¬ S p.block) : w'.cell? p = w.cell? p :=
  World.cell?_of_block (h.block _ hp hn)
theorem Tur.frozen {S : Nat → Prop} {w w' : World} (h : Tur S w w') {p : Addr} (hp : p.block < w.heap.size) (hn : ¬ S p.block) : w'.frozen? p = w.frozen? p :=
  World.frozen?_of_block (h.block _ hp hn)

theorem cell_lt {w : World} {p : Addr} {v : Value} (h : w.cell? p = some v) : p.block < w.heap.size := by
  unfold World.cell? at h
  split at h
  · rename_i hb
    exact (Array.getElem?_eq_some_iff.1 hb).1
  · cases h

theorem Tur.cell' {S : Nat → Prop} {w w' : World} (h : Tur S w w') {p : Addr} {v : Value} (hc : w.cell? p = some v) (hn : ¬ S p.block) : w'.cell? p = some v :=
  (h.cell (cell_lt hc) hn).trans hc

/-- A block of cells that may be written. -/
def OpenBlk (w : World) (b : Nat) (ty : TypeId) (n : Nat) : Prop := ∃ c, w.heap[b]? = some (.cells c ty (0, 0)) ∧ c.size = n

theorem OpenBlk.lt {w : World} {b : Nat} {ty : TypeId} {n : Nat} (h : OpenBlk w b ty n) : b < w.heap.size := by
  obtain ⟨c, h, _⟩ := h; exact (Array.getElem?_eq_some_iff.1 h).1

theorem OpenBlk.frozen {w : World} {b : Nat} {ty : TypeId} {n : Nat} (h : OpenBlk w b ty n) (o : Nat) : w.frozen? ⟨b, o, none⟩ = false := by
  obtain ⟨c, h, _⟩ := h; simp [World.frozen?, h]

theorem OpenBlk.tur {S : Nat → Prop} {w w' : World} {b : Nat} {ty : TypeId} {n : Nat} (h : OpenBlk w b ty n) (t : Tur S w w') (hn : ¬ S b) : OpenBlk w' b ty n := by
  have hl := h.lt
  obtain ⟨c, h, hc⟩ := h
  exact ⟨c, (t.block b hl hn).trans h, hc⟩

theorem heap_setCell_self {w : World} {b o : Nat} {c : Array Value} {ty : TypeId} {f : Nat × Nat} (h : w.heap[b]? = some (.cells c ty f)) (u : Value) :
    (w.setCell ⟨b, o, none⟩ u).heap[b]? = some (.cells (c.setIfInBounds o u) ty f) := by
  simp [World.setCell, Array.getElem?_modify, h]

theorem OpenBlk.setCell {w : World} {b : Nat} {ty : TypeId} {n : Nat} (h : OpenBlk w b ty n) (p : Addr) (u : Value) : OpenBlk (w.setCell p u) b ty n := by
  obtain ⟨c, h, hc⟩ := h
  by_cases e : p.block = b
  · obtain ⟨pb, po, ps⟩ := p
    simp only at e
    subst e
    cases ps with
    | none => exact ⟨_, heap_setCell_self h u, by simpa using hc⟩
    | some s => exact ⟨c, by simp [World.setCell, Array.getElem?_modify, h], hc⟩
  · exact ⟨c, by rw [Below.heap_setCell _ _ _ _ (fun h => e h.symm)]; exact h, hc⟩

theorem cell_setCell_eq {w : World} {b o : Nat} {ty : TypeId} {n : Nat} (h : OpenBlk w b ty n) (ho : o < n) (u : Value) : (w.setCell ⟨b, o, none⟩ u).cell? ⟨b, o, none⟩ = some u := by
  obtain ⟨c, h, hc⟩ := h
  simp [World.cell?, heap_setCell_self h u, hc, ho]

theorem cell_setCell_ne {w : World} {p : Addr} {b o : Nat} {u : Value} (hne : p.block = b → p.off ≠ o) : (w.setCell p u).cell? ⟨b, o, none⟩ = w.cell? ⟨b, o, none⟩ := by
  by_cases e : p.block = b
  · obtain ⟨pb, po, ps⟩ := p
    simp only at e hne
    subst e
    have hne := hne rfl
    simp only [World.cell?, World.setCell, Array.getElem?_modify]
    cases h : w.heap[pb]? with
    | none => simp [h]
    | some ob =>
      cases ob <;> simp
      cases ps <;> simp [Array.getElem?_setIfInBounds, hne]
  · simp only [World.cell?]
    rw [Below.heap_setCell _ _ _ _ (fun h => e h.symm)]

/-- A cell of an open block is there. -/
theorem OpenBlk.some {w : World} {b : Nat} {ty : TypeId} {n : Nat} (h : OpenBlk w b ty n) {o : Nat} (ho : o < n) : ∃ v, w.cell? ⟨b, o, none⟩ = some v := by
  obtain ⟨c, h, hc⟩ := h
  exact ⟨c[o]'(by omega), by simp [World.cell?, h, hc, ho]⟩

/-- A block that stood reads as it did. -/
theorem Tur.blk {S : Nat → Prop} {w w' : World} (h : Tur S w w') (b : Nat) (hb : b < w.heap.size) (hn : ¬ S b) :
    (∀ o, w'.cell? ⟨b, o, none⟩ = w.cell? ⟨b, o, none⟩) ∧ (∀ o, w'.frozen? ⟨b, o, none⟩ = w.frozen? ⟨b, o, none⟩) :=
  ⟨fun o => h.cell (p := ⟨b, o, none⟩) hb hn, fun o => h.frozen (p := ⟨b, o, none⟩) hb hn⟩

theorem Tur.none_trans {a b c : World} (h : Tur None' a b) (k : Tur None' b c) : Tur None' a c := h.trans k (fun _ _ h => h)

/-- From w on one object o was laid first, and nothing that stood has turned since. -/
structure Run (w : World) (o : Obj) (wc : World) : Prop where
  tur : Tur None' w wc
  blk : wc.heap[w.heap.size]? = some o

theorem Run.start (w : World) (o : Obj) : Run w o (w.alloc o) := ⟨(Tur.refl _ _).alloc _, (MapKept.heap_alloc w o).1⟩

theorem Run.step {w wc wd : World} {o : Obj} (h : Run w o wc) (t : Tur None' wc wd) : Run w o wd :=
  ⟨h.tur.none_trans t, (t.block _ (Array.getElem?_eq_some_iff.1 h.blk).1 (fun h => h)).trans h.blk⟩

theorem Run.cell {w wc : World} {cs : Array Value} {ty : TypeId} {f : Nat × Nat} (h : Run w (.cells cs ty f) wc) (i : Nat) : wc.cell? ⟨w.heap.size, i, none⟩ = cs[i]? := by
  simp [World.cell?, h.blk]

theorem Run.free {w wc : World} {cs : Array Value} {ty : TypeId} (h : Run w (.cells cs ty (0, 0)) wc) (i : Nat) : wc.frozen? ⟨w.heap.size, i, none⟩ = false := by
  simp [World.frozen?, h.blk]

end Go.Proofs.Ytapkmgmcccgejaa

/- Names and their versions as plain data, and how they lie in memory. -/
import Derived.Test.YtapkmgmcccgejaaClone
import Derived.Test.YtapkmgmcccgejaaLog
namespace Go.Proofs.Ytapkmgmcccgejaa
open Go.RowKit Go.Shelf

structure Tab where
  name : ByteArray
  cols : List Col
  rel : Int

structure Ver where
  xmin : Int
  xmax : Int
  t : Tab

/-- Does a transaction see a version? -/
def Ver.seen (L : LogM) (x : Int) (v : Ver) : Bool := L.sees x v.xmin && !((v.xmax != 0 && L.state v.xmax != 3) && L.sees x v.xmax)

/-- Names: the versions of each, and which there are. -/
structure NM where
  f : ByteArray → List Ver
  keys : List ByteArray

namespace NM
def empty : NM := ⟨fun _ => [], []⟩
def at_ (N : NM) (L : LogM) (x : Int) (s : ByteArray) : Int := idxOf (Ver.seen L x) (N.f s)
end NM

/-- The five cells of a version whose columns' slice is cv. -/
def verCells (p : Ver × Value) : List Value := [.int .i64 p.1.xmin, .int .i64 p.1.xmax, .string p.1.t.name, p.2, .int .i64 p.1.t.rel]

theorem verCells_len (p : Ver × Value) : (verCells p).length = 5 := rfl

/-- A slice of versions of our own. -/
structure VersAt (w : World) (B : Nat) (v : Value) (vers : List Ver) (cvs : List Value) : Prop where
  own : w.ownsRow B 66 5 v vers.length ((vers.zip cvs).flatMap verCells)
  len : cvs.length = vers.length
  cols : ∀ (i : Nat) (x : Ver) (cv : Value), vers[i]? = some x → cvs[i]? = some cv → OwnCols w B cv x.t.cols

theorem VersAt.zip_get {w : World} {B : Nat} {v : Value} {vers : List Ver} {cvs : List Value} (h : VersAt w B v vers cvs) {i : Nat} {x : Ver} (hx : vers[i]? = some x) :
    ∃ cv, cvs[i]? = some cv ∧ (vers.zip cvs)[i]? = some (x, cv) := by
  have hi : i < vers.length := (List.getElem?_eq_some_iff.1 hx).1
  have hi2 : i < cvs.length := by rw [h.len]; exact hi
  refine ⟨cvs[i], List.getElem?_eq_getElem hi2, ?_⟩
  rw [List.getElem?_zip_eq_some]
  exact ⟨hx, List.getElem?_eq_getElem hi2⟩

/-- The cells of a version. -/
structure VerAt (w : World) (g o : Nat) (x : Ver) (cv : Value) : Prop where
  c0 : w.cell? ⟨g, o, none⟩ = some (.int .i64 x.xmin)
  c1 : w.cell? ⟨g, o + 1, none⟩ = some (.int .i64 x.xmax)
  c2 : w.cell? ⟨g, o + 2, none⟩ = some (.string x.t.name)
  c3 : w.cell? ⟨g, o + 3, none⟩ = some cv
  c4 : w.cell? ⟨g, o + 4, none⟩ = some (.int .i64 x.t.rel)

theorem VerAt.tur {S : Nat → Prop} {w w' : World} {g o : Nat} {x : Ver} {cv : Value} (h : VerAt w g o x cv) (t : Tur S w w') (hn : ¬ S g) : VerAt w' g o x cv :=
  ⟨t.cell' h.c0 hn, t.cell' h.c1 hn, t.cell' h.c2 hn, t.cell' h.c3 hn, t.cell' h.c4 hn⟩

theorem VersAt.ver {w : World} {B : Nat} {v : Value} {vers : List Ver} {cvs : List Value} (h : VersAt w B v vers cvs) {i : Nat} {x : Ver} (hx : vers[i]? = some x) {g : Nat} (hg : v.ownBlock = some g) :
    ∃ cv, cvs[i]? = some cv ∧ VerAt w g (i * 5) x cv ∧ OwnCols w B cv x.t.cols := by
  obtain ⟨cv, hcv, hz⟩ := h.zip_get hx
  have hl : (vers.zip cvs).length = vers.length := by simp [h.len]
  have hget : ∀ j, j < 5 → ∀ u, (verCells (x, cv))[j]? = some u → w.cell? ⟨g, i * 5 + j, none⟩ = some u := by
    intro j hj u hu
    have := flat_get (f := verCells) (s := 5) verCells_len (vers.zip cvs) i j (x, cv) hz hj
    rw [hu] at this
    exact ownsRow_cell h.own hg this
  exact ⟨cv, hcv, ⟨hget 0 (by decide) _ rfl, hget 1 (by decide) _ rfl, hget 2 (by decide) _ rfl, hget 3 (by decide) _ rfl, hget 4 (by decide) _ rfl⟩, h.cols i x cv hx hcv⟩

theorem VersAt.tur {S : Nat → Prop} {w w' : World} {B : Nat} {v : Value} {vers : List Ver} {cvs : List Value} (h : VersAt w B v vers cvs) (t : Tur S w w') (hn : ∀ g, v.ownBlock = some g → ¬ S g)
    (hc : ∀ cv ∈ cvs, ∀ g, cv.ownBlock = some g → ¬ S g) : VersAt w' B v vers cvs :=
  ⟨ownsRow_tur h.own t hn, h.len, fun i x cv hx hcv => (h.cols i x cv hx hcv).tur t (hc cv (List.mem_of_getElem? hcv))⟩

/-- What an object is to names: 1 a map, 2 a row of versions, 3 a row of columns, 4 names' own struct; 0 another thing. -/
def kindN : Obj → Nat
  | .map _ _ => 1
  | .cells _ e _ => if e = 66 then 2 else if e = 73 then 3 else if e = 61 then 4 else 0
  | _ => 0

def KindAt (w : World) (k n : Nat) : Prop := ∃ o, w.heap[k]? = some o ∧ kindN o = n

theorem KindAt.fn {w : World} {k n m : Nat} (h : KindAt w k n) (h' : KindAt w k m) : n = m := by
  obtain ⟨o, h1, h2⟩ := h
  obtain ⟨o', h3, h4⟩ := h'
  rw [h1] at h3; cases h3; omega

theorem ownsRow_kind {w : World} {base : Nat} {e : TypeId} {size : Nat} {v : Value} {n : Nat} {xs : List Value} (h : w.ownsRow base e size v n xs) {g : Nat} (hg : v.ownBlock = some g) (k : Nat) (hk : kindN (.cells #[] e (0, 0)) = k) : KindAt w g k := by
  rcases ownsRow_shape h with ⟨rfl, _⟩ | ⟨g', cap, rfl, _, _, _, c, ho, _⟩
  · cases hg
  · simp only [Value.ownBlock, Option.some.injEq] at hg
    subst hg
    exact ⟨_, ho, hk⟩

theorem VersAt.kind {w : World} {B : Nat} {v : Value} {vers : List Ver} {cvs : List Value} (h : VersAt w B v vers cvs) {g : Nat} (hg : v.ownBlock = some g) : KindAt w g 2 := ownsRow_kind h.own hg 2 rfl
theorem OwnCols.kind {w : World} {B : Nat} {v : Value} {cols : List Col} (h : OwnCols w B v cols) {g : Nat} (hg : v.ownBlock = some g) : KindAt w g 3 := ownsRow_kind h.own hg 3 rfl

theorem KindAt.lt {w : World} {k n : Nat} (h : KindAt w k n) : k < w.heap.size := by obtain ⟨o, h, _⟩ := h; exact (Array.getElem?_eq_some_iff.1 h).1

/-- Block b holds the names N; all of theirs lies from block B on. -/
structure NamesAt (w : World) (b B : Nat) (N : NM) (mb ck : Nat) (m : List (Ent ByteArray)) : Prop where
  box : w.heap[b]? = some (.cells #[.map (some mb)] 61 (0, 0))
  map : MapAt w mb Value.string m ck
  hb : B ≤ b
  hmb : B ≤ mb
  keys : m.map (·.1) = N.keys
  nokey : ∀ s, look s m = none → N.f s = []
  vers : ∀ s v, look s m = some v → N.f s ≠ [] ∧ ∃ cvs, VersAt w B v (N.f s) cvs
  apart : ∀ s s' v v' g, look s m = some v → look s' m = some v' → v.ownBlock = some g → v'.ownBlock = some g → s = s'

/-- Names, as far as anybody else need know. -/
def NamesIn (w : World) (b B : Nat) (N : NM) : Prop := ∃ mb ck m, NamesAt w b B N mb ck m

theorem NamesAt.kind_map {w : World} {b B : Nat} {N : NM} {mb ck : Nat} {m : List (Ent ByteArray)} (h : NamesAt w b B N mb ck m) : KindAt w mb 1 := ⟨_, h.map.heap, rfl⟩
theorem NamesAt.kind_box {w : World} {b B : Nat} {N : NM} {mb ck : Nat} {m : List (Ent ByteArray)} (h : NamesAt w b B N mb ck m) : KindAt w b 4 := ⟨_, h.box, rfl⟩

/-- Whatever turned is none of names' own. -/
theorem NamesAt.tur {S : Nat → Prop} {w w' : World} {b B : Nat} {N : NM} {mb ck : Nat} {m : List (Ent ByteArray)} (h : NamesAt w b B N mb ck m) (t : Tur S w w')
    (hS : ∀ k n, B ≤ k → KindAt w k n → n ≠ 0 → ¬ S k) : NamesAt w' b B N mb ck m := by
  refine ⟨(t.block b h.kind_box.lt (hS b 4 h.hb h.kind_box (by decide))).trans h.box, h.map.tur t (hS mb 1 h.hmb h.kind_map (by decide)), h.hb, h.hmb, h.keys, h.nokey, fun s v hv => ?_, h.apart⟩
  obtain ⟨h1, cvs, h2⟩ := h.vers s v hv
  refine ⟨h1, cvs, h2.tur t (fun g hg => hS g 2 (ownsRow_ge h2.own hg) (h2.kind hg) (by decide)) (fun cv hcv g hg => ?_)⟩
  obtain ⟨i, hi⟩ := List.getElem?_of_mem hcv
  have hil : i < (N.f s).length := by rw [← h2.len]; exact (List.getElem?_eq_some_iff.1 hi).1
  have := h2.cols i _ cv (List.getElem?_eq_getElem hil) hi
  exact hS g 3 (this.block_ge hg) (this.kind hg) (by decide)

theorem NamesIn.tur {S : Nat → Prop} {w w' : World} {b B : Nat} {N : NM} (h : NamesIn w b B N) (t : Tur S w w') (hS : ∀ k n, B ≤ k → KindAt w k n → n ≠ 0 → ¬ S k) : NamesIn w' b B N := by
  obtain ⟨mb, ck, m, h⟩ := h
  exact ⟨mb, ck, m, h.tur t hS⟩

theorem NamesIn.tur0 {w w' : World} {b B : Nat} {N : NM} (h : NamesIn w b B N) (t : Tur None' w w') : NamesIn w' b B N := h.tur t (fun _ _ _ _ _ h => h)

theorem LogAt.kind {w : World} {b : Nat} {L : LogM} (h : LogAt w b L) : KindAt w b 0 := by
  obtain ⟨c, hc, _⟩ := h.blk
  exact ⟨_, hc, rfl⟩

/-- What the log alone turned leaves names as they were. -/
theorem NamesIn.log {w w' : World} {b B lb : Nat} {N : NM} {L : LogM} (h : NamesIn w b B N) (hl : LogAt w lb L) (t : Tur (· = lb) w w') : NamesIn w' b B N :=
  h.tur t (fun k n _ hk hn e => hn (by subst e; exact hk.fn hl.kind))

end Go.Proofs.Ytapkmgmcccgejaa

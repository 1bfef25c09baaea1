/- A copy of columns in new memory. -/
import Derived.Test.YtapkmgmcccgejaaRow
import Derived.Maps.AppendAt
import Derived.OwnWalk
namespace Go.Proofs.Ytapkmgmcccgejaa
open Go.RowKit Go.Shelf

def Col.cells (c : Col) : List Value := [.string c.name, .int .i64 c.kind, .bool c.nn, .int .i64 c.d.kind, .int .i64 c.d.n, .float .f64 c.d.f, .string c.d.s]

theorem infoCol : (Try.prog.info? 73).map (fun i => (i.zero, i.size, i.bytes)) = some (some (.agg #[.string ByteArray.empty, .int .i64 0, .bool false, .int .i64 0, .int .i64 0, .float .f64 0, .string ByteArray.empty]), 7, 72) := by kernel_rfl

theorem flat_len {α : Type} {f : α → List Value} {s : Nat} (hf : ∀ x, (f x).length = s) : ∀ l : List α, (l.flatMap f).length = l.length * s
  | [] => by simp
  | x :: l => by simp [hf, flat_len hf l, Nat.add_mul]; omega

theorem flat_get {α : Type} {f : α → List Value} {s : Nat} (hf : ∀ x, (f x).length = s) : ∀ (l : List α) (k j : Nat) (x : α), l[k]? = some x → j < s → (l.flatMap f)[k * s + j]? = (f x)[j]?
  | [], _, _, _, h, _ => by simp at h
  | y :: l, 0, j, x, h, hj => by
    simp at h; subst h
    simp only [List.flatMap_cons, Nat.zero_mul, Nat.zero_add]
    rw [List.getElem?_append_left (by rw [hf]; exact hj)]
  | y :: l, k + 1, j, x, h, hj => by
    simp at h
    simp only [List.flatMap_cons]
    rw [List.getElem?_append_right (by rw [hf, Nat.add_mul]; omega), hf]
    rw [show (k + 1) * s + j - s = k * s + j from by rw [Nat.add_mul]; omega]
    exact flat_get hf l k j x h hj

/-- Where a place of a flat list lies. -/
theorem flat_at {α : Type} {f : α → List Value} {s : Nat} (hs : 0 < s) (hf : ∀ x, (f x).length = s) {l : List α} {j : Nat} {u : Value} (h : (l.flatMap f)[j]? = some u) :
    ∃ k i x, j = k * s + i ∧ i < s ∧ l[k]? = some x ∧ (f x)[i]? = some u := by
  have hj : j < l.length * s := by
    have := (List.getElem?_eq_some_iff.1 h).1
    rwa [flat_len hf] at this
  have hk : j / s < l.length := Nat.div_lt_of_lt_mul (by rw [Nat.mul_comm]; exact hj)
  have hm := Nat.mod_lt j hs
  have e : j = j / s * s + j % s := by have := Nat.div_add_mod j s; rw [Nat.mul_comm] at this; exact this.symm
  refine ⟨j / s, j % s, l[j / s], e, hm, List.getElem?_eq_getElem hk, ?_⟩
  have := flat_get hf l (j / s) (j % s) l[j / s] (List.getElem?_eq_getElem hk) hm
  rw [← e] at this
  rw [← this]; exact h

theorem Col.cells_len (c : Col) : c.cells.length = 7 := rfl
theorem Col.one (c : Col) : ∀ u ∈ c.cells, u.oneCell' = true := by
  intro u hu
  simp only [Col.cells, List.mem_cons, List.not_mem_nil, or_false] at hu
  rcases hu with rfl | rfl | rfl | rfl | rfl | rfl | rfl <;> rfl

theorem ColAt.get {w : World} {b o : Nat} {c : Col} (h : ColAt w b o c) {i : Nat} {u : Value} (hu : c.cells[i]? = some u) : w.cell? ⟨b, o + i, none⟩ = some u := by
  unfold Col.cells at hu
  match i, hu with
  | 0, hu => simp at hu; subst hu; exact h.c0
  | 1, hu => simp at hu; subst hu; exact h.c1
  | 2, hu => simp at hu; subst hu; exact h.c2
  | 3, hu => simp at hu; subst hu; exact h.c3
  | 4, hu => simp at hu; subst hu; exact h.c4
  | 5, hu => simp at hu; subst hu; exact h.c5
  | 6, hu => simp at hu; subst hu; exact h.c6
  | n + 7, hu => simp at hu

theorem ColAt.mk' {w : World} {b o : Nat} {c : Col} (h : ∀ i u, c.cells[i]? = some u → w.cell? ⟨b, o + i, none⟩ = some u) : ColAt w b o c :=
  ⟨h 0 _ rfl, h 1 _ rfl, h 2 _ rfl, h 3 _ rfl, h 4 _ rfl, h 5 _ rfl, h 6 _ rfl⟩

/-- Columns that a call made: a row of their own from block B on. -/
structure OwnCols (w : World) (B : Nat) (v : Value) (cols : List Col) : Prop where
  own : w.ownsRow B 73 7 v cols.length (cols.flatMap Col.cells)
  ok : ∀ c ∈ cols, c.Ok
  len : cols.length ≤ maxLen

theorem ownsRow_cell {w : World} {base : Nat} {e : TypeId} {size : Nat} {v : Value} {n : Nat} {xs : List Value} (h : w.ownsRow base e size v n xs) {g : Nat} (hg : v.ownBlock = some g) {j : Nat} {u : Value} (hu : xs[j]? = some u) :
    w.cell? ⟨g, j, none⟩ = some u := by
  obtain ⟨hl, h2⟩ := h
  rcases h2 with ⟨rfl, _⟩ | ⟨g', cap, cur, rfl, hb, hh, hn, hc, hs, ht⟩
  · cases hg
  · simp only [Value.ownBlock, Option.some.injEq] at hg
    subst hg
    simp only [World.cell?, hh]
    rw [← ht, List.getElem?_take] at hu
    split at hu
    · simpa using hu
    · cases hu

theorem ownsRow_shape {w : World} {base : Nat} {e : TypeId} {size : Nat} {v : Value} {n : Nat} {xs : List Value} (h : w.ownsRow base e size v n xs) :
    (v = .slice none 0 0 ∧ n = 0) ∨ ∃ g cap, v = .slice (some ⟨g, 0, none⟩) n cap ∧ base ≤ g ∧ n ≤ cap ∧ cap ≤ maxLen ∧ OpenBlk w g e (cap * size) := by
  obtain ⟨hl, h2⟩ := h
  rcases h2 with h2 | ⟨g', cap, cur, rfl, hb, hh, hn, hc, hs, ht⟩
  · exact .inl h2
  · exact .inr ⟨g', cap, rfl, hb, hn, hc, cur, hh, hs⟩

theorem ownsRow_tur {S : Nat → Prop} {w w' : World} {base : Nat} {e : TypeId} {size : Nat} {v : Value} {n : Nat} {xs : List Value} (h : w.ownsRow base e size v n xs) (t : Tur S w w') (hn : ∀ g, v.ownBlock = some g → ¬ S g) : w'.ownsRow base e size v n xs := by
  obtain ⟨hl, h2⟩ := h
  refine ⟨hl, ?_⟩
  rcases h2 with h2 | ⟨g', cap, cur, rfl, hb, hh, r⟩
  · exact .inl h2
  · exact .inr ⟨g', cap, cur, rfl, hb, (t.block g' (Array.getElem?_eq_some_iff.1 hh).1 (hn g' rfl)).trans hh, r⟩

theorem OwnCols.at {w : World} {B : Nat} {v : Value} {cols : List Col} (h : OwnCols w B v cols) : ∃ blk, ColsAt w v cols blk ∧ (cols ≠ [] → B ≤ blk ∧ v.ownBlock = some blk ∧ ∃ n, OpenBlk w blk 73 n) := by
  rcases ownsRow_shape h.own with ⟨rfl, h0⟩ | ⟨g, cap, rfl, hb, hn, hc, ho⟩
  · have e0 : cols = [] := List.eq_nil_of_length_eq_zero h0
    subst e0
    exact ⟨0, ⟨⟨none, 0, 0, rfl, fun h => absurd rfl h, fun i c hi => by simp at hi⟩, h.ok, h.len⟩, fun h => absurd rfl h⟩
  · refine ⟨g, ⟨⟨_, cap, 0, rfl, fun _ => rfl, fun i c hi => ColAt.mk' fun j u hu => ?_⟩, h.ok, h.len⟩, fun _ => ⟨hb, rfl, _, ho⟩⟩
    have hj : j < 7 := by have := (List.getElem?_eq_some_iff.1 hu).1; rwa [Col.cells_len] at this
    have := flat_get (f := Col.cells) (s := 7) Col.cells_len cols i j c hi hj
    rw [hu] at this
    have := ownsRow_cell h.own rfl this
    simpa using this

theorem ownsRow_ge {w : World} {base : Nat} {e : TypeId} {size : Nat} {v : Value} {n : Nat} {xs : List Value} (h : w.ownsRow base e size v n xs) {g : Nat} (hg : v.ownBlock = some g) : base ≤ g := by
  rcases ownsRow_shape h with ⟨rfl, _⟩ | ⟨g', cap, rfl, hb, _⟩
  · cases hg
  · simp only [Value.ownBlock, Option.some.injEq] at hg; omega

theorem OwnCols.block_ge {w : World} {B : Nat} {v : Value} {cols : List Col} (h : OwnCols w B v cols) {g : Nat} (hg : v.ownBlock = some g) : B ≤ g := ownsRow_ge h.own hg

theorem OwnCols.slice {w : World} {B : Nat} {v : Value} {cols : List Col} (h : OwnCols w B v cols) : ∃ a n c, v = .slice a n c := by
  rcases ownsRow_shape h.own with ⟨rfl, _⟩ | ⟨g, cap, rfl, _⟩
  · exact ⟨_, _, _, rfl⟩
  · exact ⟨_, _, _, rfl⟩

theorem OwnCols.tur {S : Nat → Prop} {w w' : World} {B : Nat} {v : Value} {cols : List Col} (h : OwnCols w B v cols) (t : Tur S w w') (hn : ∀ g, v.ownBlock = some g → ¬ S g) : OwnCols w' B v cols :=
  ⟨ownsRow_tur h.own t hn, h.ok, h.len⟩

theorem OwnCols.mono {w : World} {B B' : Nat} {v : Value} {cols : List Col} (h : OwnCols w B v cols) (hB : B' ≤ B) : OwnCols w B' v cols := by
  refine ⟨?_, h.ok, h.len⟩
  obtain ⟨hl, h2⟩ := h.own
  refine ⟨hl, ?_⟩
  rcases h2 with h2 | ⟨g, cap, cur, rfl, hb, r⟩
  · exact .inl h2
  · exact .inr ⟨g, cap, cur, rfl, by omega, r⟩

set_option maxRecDepth 100000 in
set_option maxHeartbeats 1000000 in
theorem cloneCols {w : World} {v : Value} {cols : List Col} {blk : Nat} (h : ColsAt w v cols blk) (hsz : cols.length * 72 ≤ 140737488355328) :
    Calls Try.prog 47 #[v] w fun e w' => ∃ v', e = .returned v' ∧ OwnCols w' w.heap.size v' cols ∧ Tur None' w w' := by
  have hlen := h.len
  obtain ⟨i0, hi, hz0, hz1, hz2⟩ := info_parts infoCol
  obtain ⟨⟨a, cap, off, rfl, ha, hc⟩, hok, _⟩ := h
  have q : ∀ (w : World) (a : Option Addr) (n c n' c' : Nat), (binOp .eql 30 (.slice a n c) (.slice none n' c')).run Try.prog w = .ok (.bool a.isNone) w := fun w a n c n' c' => Lib.run_eql_slice_nil w _ _ a n c n' c' Try.underlying30
  cases a with
  | none =>
    have e0 : cols = [] := by
      by_cases e : cols = []
      · exact e
      · have := ha e; cases this
    subst e0
    clear ha hc hok hi hz0 hz1 hz2
    go_enter Try.func47, Try.ntmps47
    go_wp2
    go_ret
    exact ⟨_, rfl, ⟨⟨rfl, .inl ⟨rfl, rfl⟩⟩, by simp, by simp⟩, Tur.refl _ _⟩
  | some ad =>
    obtain ⟨b, o, sp⟩ := ad
    have Ha := Lib.hid ha
    have Hc := Lib.hid hc
    have Hok := Lib.hid hok
    clear ha hc hok
    go_enter Try.func47, Try.ntmps47
    go_wp2_with (at_builtin; refine wpList_append_own _ rfl _ _ 30 rfl w.heap.size 73 i0 _ 7 72 Try.underlying30 hi hz0 hz1 hz2 rfl (by decide) _ _ _ rfl (World.ownsRow_made w #[] 0 (Nat.le_refl _) (Nat.zero_le _) rfl) ⟨b, o, sp⟩ cols.length cap (cols.flatMap Col.cells) rfl ?qc1 ?qc2 ?qc3 ?qc4 ?qc5 ?qc6 ?_)
    case qc1 => exact flat_len Col.cells_len cols
    case qc2 =>
      intro j u hj
      obtain ⟨k, i, x, rfl, hi7, hx, hu⟩ := flat_at (f := Col.cells) (s := 7) (by decide) Col.cells_len hj
      have ea := Ha.out (by rintro rfl; simp at hx)
      cases ea
      rw [Addr.add_lit]
      refine Lib.cell?_alloc_some _ ?_
      have := (Hc.out k x hx).get hu
      rw [← this, Nat.add_assoc]
    case qc3 =>
      intro u hu
      obtain ⟨c, _, hc⟩ := List.mem_flatMap.1 hu
      exact c.one u hc
    case qc4 => omega
    case qc5 => omega
    case qc6 => simp
    intro v' w1 hown hgrow hnil
    go_wp2
    go_ret
    exact ⟨v', rfl, ⟨by simpa using hown, Hok.out, hlen⟩, ((Tur.refl None' _).alloc _).grown hgrow (by intro k hk hlt; simp [Value.ownBlock] at hk; omega)⟩

set_option maxRecDepth 100000 in
set_option maxHeartbeats 1000000 in
theorem copied_any {w : World} {cv : Value} {cols : List Col} {blk : Nat} (h : ColsAt w cv cols blk) (hsz : cols.length * 72 ≤ 140737488355328) (nm : ByteArray) (rel : Int) :
    Calls Try.prog 27 #[.agg #[.string nm, cv, .int .i64 rel]] w fun e w' => ∃ cv', e = .returned (.agg #[.string nm, cv', .int .i64 rel]) ∧ OwnCols w' w.heap.size cv' cols ∧ Tur None' w w' := by
  have h' : ∀ w2, Tur None' w w2 → ColsAt w2 cv cols blk := fun w2 t => h.tur t (fun _ h => h)
  have H := Lib.hid h'
  obtain ⟨⟨a, cap, off, rfl, _⟩, _, _⟩ := h
  clear h'
  go_enter Try.func27, Try.ntmps27
  go_wp2_with (refine (cloneCols (H.out _ (((Tur.refl None' _).alloc _).alloc _)) hsz).mono ?_; rintro e w1 ⟨cv', rfl, hcv, ht⟩; obtain ⟨a', n', cap', rfl⟩ := hcv.slice; obtain ⟨c1, f1⟩ := ht.blk w.heap.size (by simp; omega) (fun h => h); obtain ⟨c2, f2⟩ := ht.blk (w.heap.size + 1) (by simp) (fun h => h))
  have hsz1 : w.heap.size + 1 + 1 ≤ w1.heap.size := by have := ht.size; simpa using this
  have tf : Tur (fun k => k < w.heap.size + 2) w1 ((((w1.setCell ⟨w.heap.size, 1, none⟩ (.slice a' n' cap')).setCell ⟨w.heap.size + 1, 0, none⟩ (.string nm)).setCell ⟨w.heap.size + 1, 1, none⟩ (.slice a' n' cap')).setCell ⟨w.heap.size + 1, 2, none⟩ (.int .i64 rel)) :=
    ((((Tur.refl _ _).setCell (p := ⟨w.heap.size, 1, none⟩) (fun _ => by simp) _).setCell (p := ⟨w.heap.size + 1, 0, none⟩) (fun _ => by simp) _).setCell (p := ⟨w.heap.size + 1, 1, none⟩) (fun _ => by simp) _).setCell (p := ⟨w.heap.size + 1, 2, none⟩) (fun _ => by simp) _
  have hcv2 := (hcv.tur tf (fun g hg hlt => by have := hcv.block_ge hg; simp at this; omega)).mono (B' := w.heap.size) (by simp; omega)
  have tw : Tur None' w w1 := ((Tur.refl None' _).alloc _ |>.alloc _).none_trans ht
  refine bodyPost_ret (v := .agg #[.string nm, .slice a' n' cap', .int .i64 rel]) (by simp [results, Try.results27, go_sem, c1, c2]) rfl ⟨_, rfl, hcv2, ?_⟩
  exact ((((tw.setCell (p := ⟨w.heap.size, 1, none⟩) (fun h => absurd h (by simp)) _).setCell (p := ⟨w.heap.size + 1, 0, none⟩) (fun h => absurd h (by simp)) _).setCell (p := ⟨w.heap.size + 1, 1, none⟩) (fun h => absurd h (by simp)) _).setCell (p := ⟨w.heap.size + 1, 2, none⟩) (fun h => absurd h (by simp)) _)

end Go.Proofs.Ytapkmgmcccgejaa

/- The order of tables by their names, as slices.SortFunc is told of it, and All in general. -/
import Derived.Test.YtapkmgmcccgejaaSrt
import Derived.Test.YtapkmgmcccgejaaLayTab
import Derived.Test.YtapkmgmcccgejaaAllA
namespace Go.Proofs.Ytapkmgmcccgejaa
open Go.RowKit Go.Sort Go.Shelf

set_option maxRecDepth 100000 in
theorem isNaNStr (x : ByteArray) (W : World) : Calls Try.prog 51 #[.string x] W fun e w' => e = .returned (.bool false) ∧ w' = W := by
  go_enter Try.func51, Try.ntmps51
  go_wp2
  go_ret
  exact ⟨by simp, rfl⟩

set_option maxRecDepth 100000 in
theorem compareStr (x y : ByteArray) (W : World) : Calls Try.prog 36 #[.string x, .string y] W fun e w' => e = .returned (.int .i64 (cmpS x y)) ∧ w' = W := by
  have hs := fun x W => isNaNStr x W
  unfold cmpS
  go_enter Try.func36, Try.ntmps36
  go_wp2_with (go_at_call 51; refine (hs _ _).mono ?_; rintro e w1 ⟨rfl, rfl⟩)
  all_goals (go_ret; refine ⟨?_, rfl⟩; simp_all)

/-- A table and where its columns lie. -/
structure TE where
  t : Tab
  a : Option Addr
  n : Nat
  cap : Nat
instance : Inhabited TE := ⟨⟨⟨ByteArray.empty, [], 0⟩, none, 0, 0⟩⟩
def TE.sl (x : TE) : Value := .slice x.a x.n x.cap
def TE.cells (x : TE) : List Value := [.string x.t.name, .slice x.a x.n x.cap, .int .i64 x.t.rel]
theorem TE.cells_len (x : TE) : x.cells.length = 3 := rfl
theorem TE.one (x : TE) : ∀ u ∈ x.cells, u.oneCell' = true := by
  intro u hu
  simp only [TE.cells, List.mem_cons, List.not_mem_nil, or_false] at hu
  rcases hu with rfl | rfl | rfl <;> rfl

def cmpTE (x y : TE) : Int := cmpS x.t.name y.t.name
theorem ltTE (x y : TE) : ltOf cmpTE x y = decide (x.t.name.toList < y.t.name.toList) := cmpS_neg _ _
theorem swoTE : SWO (ltOf cmpTE) where
  irrefl x := by rw [ltTE]; simp [List.lt_irrefl]
  trans x y z h1 h2 := by
    rw [ltTE] at *
    simp only [decide_eq_true_eq] at *; exact List.lt_trans h1 h2
  ntrans x y z h1 h2 := by
    rw [ltTE] at *
    simp only [decide_eq_false_iff_not, List.not_lt] at *
    exact List.le_trans h2 h1

set_option maxRecDepth 100000 in
theorem allClosure (x y : TE) (W : World) : Calls Try.prog 35 #[.agg x.cells.toArray, .agg y.cells.toArray] W fun e w' => e = .returned (.int .i64 (cmpTE x y)) ∧ ∃ q os', w' = grow (W.drewN q) os' := by
  have hcon := fun W' => compareStr x.t.name y.t.name W'
  unfold cmpTE
  generalize cmpS x.t.name y.t.name = r at hcon ⊢
  unfold TE.cells
  go_enter Try.func35, Try.ntmps35
  go_wp2_with (go_at_call 36; refine (hcon _).mono ?_; rintro e w' ⟨rfl, rfl⟩)
  go_ret
  exact ⟨rfl, 0, _, by rw [alloc_eq_grow, alloc_eq_grow, grow_grow]; rfl⟩

theorem sortTabs {w : World} {B : Nat} {v : Value} (l : List TE) (h : w.ownsRow B 32 3 v l.length (l.flatMap TE.cells)) (hn : l.length < 4611686018427387904) :
    Calls Try.prog 34 #[v, .func (.func 35) #[] #[]] w fun e w' => e = .returned (.tuple #[]) ∧ ∃ l' : List TE, l'.Perm l ∧ l'.Pairwise (fun x y => ltOf cmpTE y x = false) ∧ w'.ownsRow B 32 3 v l'.length (l'.flatMap TE.cells) ∧ Tur (fun b => v.ownBlock = some b) w w' :=
  sortOwn (ρ := Try.sortTab_ren) Try.sortTab 3 Try.isAgg32 Try.sizeOf32 TE.cells TE.cells_len TE.one cmpTE swoTE 35 (enters_of Try.func35 (by kernel_rfl) rfl) allClosure l h hn

theorem te_of {ts : List Tab} : ∀ {cvs : List Value}, cvs.length = ts.length → (∀ (i : Nat) (x : Tab) (cv : Value), ts[i]? = some x → cvs[i]? = some cv → ∃ a n c, cv = .slice a n c) →
    ∃ l : List TE, l.map (·.t) = ts ∧ l.map TE.sl = cvs ∧ (ts.zip cvs).flatMap tabCells = l.flatMap TE.cells := by
  induction ts with
  | nil =>
    intro cvs hl _
    have : cvs = [] := List.length_eq_zero_iff.1 (by simpa using hl)
    subst this
    exact ⟨[], rfl, rfl, rfl⟩
  | cons t ts ih =>
    intro cvs hl hs
    cases cvs with
    | nil => simp at hl
    | cons cv cvs =>
      obtain ⟨a, n, c, rfl⟩ := hs 0 t cv rfl rfl
      obtain ⟨l, h1, h2, h3⟩ := ih (cvs := cvs) (by simpa using hl) (fun i x cv hx hc => hs (i + 1) x cv (by simpa using hx) (by simpa using hc))
      refine ⟨⟨t, a, n, c⟩ :: l, by simp [h1], by simp [h2, TE.sl], ?_⟩
      simp only [List.zip_cons_cons, List.flatMap_cons, h3]; rfl

theorem te_cells (l : List TE) : ((l.map (·.t)).zip (l.map TE.sl)).flatMap tabCells = l.flatMap TE.cells := by
  induction l with
  | nil => rfl
  | cons x l ih => simp only [List.map_cons, List.zip_cons_cons, List.flatMap_cons, ih]; rfl

/-- Tables in the order of their names. -/
def NameSorted (ts : List Tab) : Prop := ts.Pairwise (fun x y => ¬ y.name.toList < x.name.toList)

theorem sortTabsAt {w : World} {B : Nat} {v : Value} {ts : List Tab} {cvs : List Value} (h : TabsAt w B v ts cvs) (hn : ts.length < 4611686018427387904) :
    Calls Try.prog 34 #[v, .func (.func 35) #[] #[]] w fun e w' => e = .returned (.tuple #[]) ∧ ∃ (ts' : List Tab) (cvs' : List Value), ts'.Perm ts ∧ NameSorted ts' ∧ TabsAt w' B v ts' cvs' ∧ Tur (fun b => v.ownBlock = some b) w w' := by
  obtain ⟨l, rfl, rfl, h3⟩ := te_of h.len (fun i x cv hx hc => (h.cols i x cv hx hc).slice)
  have hown := h.own
  rw [h3, List.length_map] at hown
  refine (sortTabs l hown (by simpa using hn)).mono ?_
  rintro e w' ⟨rfl, l', hp, hs, ho, t⟩
  refine ⟨rfl, l'.map (·.t), l'.map TE.sl, hp.map _, ?_, ⟨by rw [te_cells, List.length_map]; exact ho, by simp, ?_⟩, t⟩
  · unfold NameSorted
    rw [List.pairwise_map]
    refine hs.imp ?_
    intro x y hxy
    rw [ltTE] at hxy
    simpa using hxy
  · intro i x cv hx hc
    rw [List.getElem?_map] at hx hc
    obtain ⟨y, hy, rfl⟩ := Option.map_eq_some_iff.1 hx
    rw [hy] at hc
    simp only [Option.map_some, Option.some.injEq] at hc
    subst hc
    have hm : y ∈ l := hp.subset (List.mem_of_getElem? hy)
    obtain ⟨j, hj⟩ := List.getElem?_of_mem hm
    have ho := h.cols j y.t y.sl (by rw [List.getElem?_map, hj]; rfl) (by rw [List.getElem?_map, hj]; rfl)
    refine ho.tur t (fun g hg e => ?_)
    have := (h.kind e).fn (ho.kind hg)
    omega

end Go.Proofs.Ytapkmgmcccgejaa

/- What a walk that turned nothing of what was there leaves of a row's claim. -/
import Derived.Test.YtapkmgmcccgejaaWakes
import Derived.ChangeSame
import Derived.WalkKit
namespace Go.Proofs.Ytapkmgmcccgejaa
open Go.RowKit Go.Shelf Go.ChangeShapes Go.WideShapes

theorem Tur.kept {w w' : World} (t : Tur None' w w') (may : MemPlace → Prop) : w.keptBut w' may := by
  refine ⟨t.os, t.output, fun i hi => ?_⟩
  have h := (World.keptBut_refl w may).2.2 i hi
  rw [t.block i hi (fun h => h)]
  exact h

theorem post_of_tur {H : Type} {enc : TypeId × Value → H} {P : Program} {f : Func} {s : ChangeSpec} {apart fresh handsOn again : Bool} {W W' : World} {args : Array Value} {v : Value} {ds gs : List (DataW H)} {before pa pv : List MemPlace}
    (hW : DataW.Whole enc P f.params.toList s.vars apart W args.toList ds gs before)
    (hres : ∀ (b : Nat) (sp : Nat → Bool) (hd : Bool), DataW.TrodAll enc P W' b sp hd f.resultTypes.toList (v.resultList f.resultTypes.size) (s.fn H (ds ++ gs)).results [])
    (hargs : ∀ sp : Nat → Bool, (∀ p ∈ before, sp p.block = true) → DataW.TrodAll enc P W' 0 sp true f.params.toList args.toList (s.fn H (ds ++ gs)).args pa)
    (hvars : ∀ sp : Nat → Bool, (∀ p ∈ before, sp p.block = true) → DataW.TrodVars enc P W' sp s.vars (s.fn H (ds ++ gs)).vars pv)
    (hps : before = pa ++ pv) (ht : Tur None' W W')
    (hok : ∀ (j : Nat) (t : TypeId) (r : Value), f.resultTypes[j]? = some t → (v.resultList f.resultTypes.size)[j]? = some r → Value.okWide P W' .any 0 t r) :
    s.post enc P f apart fresh handsOn again W args v W' := by
  have hold : ∀ p ∈ before, (fun b => decide (b < W.heap.size)) p.block = true := fun p hp => by simpa using hW.lt p hp
  have hlt := hW.lt
  refine ⟨ds, gs, before, [], pa, pv, hW, hres _ _ _, hargs _ hold, hvars _ hold, World.keptBut_mono (fun p hp => ⟨hp, ?_⟩) (ht.kept (· ∈ before)), fun _ => ?_⟩
  · rw [hps, List.mem_append] at hp
    exact Or.inr hp
  · obtain ⟨_, _, _, _, _, hz, hn⟩ := hW
    refine ⟨hok, _, _, ([] ++ pa) ++ pv, ⟨[] ++ pa, pv, trodAll_append (hargs _ (fun _ _ => rfl)) (hres _ _ _), hvars _ (fun _ _ => rfl), rfl, ?_, ?_⟩, ?_⟩
    · intro b off hp
      have hm : MemPlace.cell b off ∈ before := by rw [hps]; simpa using hp
      have hl := hlt _ hm
      rw [ht.frozen hl (fun h => h)]
      exact hz b off hm
    · intro ha
      have := hn ha
      rw [hps] at this
      simpa using this
    · intro p hp _
      rw [hps]
      simpa using hp

/-- The names of the first six. -/
def nm (i : Nat) : ByteArray := ⟨#[UInt8.ofNat (97 + i)]⟩
def more : ByteArray := ⟨#[109, 111, 114, 101]⟩
def firsts (k i : Nat) : List (ByteArray × Ver) := (List.range i).map (fun j => (nm j, ⟨if k ≤ j then 2 else 1, 0, tabA (nm j) 1⟩))

theorem firsts_succ (k i : Nat) : firsts k (i + 1) = firsts k i ++ [(nm i, ⟨if k ≤ i then 2 else 1, 0, tabA (nm i) 1⟩)] := by
  unfold firsts
  rw [List.range_succ, List.map_append]; rfl

theorem nm_new : ∀ i, i < 6 → ∀ k, nm i ∉ (firsts k i).map (·.1) := by
  intro i hi k
  have e : (firsts k i).map (·.1) = (List.range i).map nm := by unfold firsts; rw [List.map_map]; rfl
  rw [e]
  have h : ∀ i, i < 6 → ∀ j, j < i → ¬ nm j = nm i := by decide +kernel
  intro hm
  obtain ⟨j, hj, e2⟩ := List.mem_map.1 hm
  exact h i hi j (List.mem_range.1 hj) e2

theorem more_new (k : Nat) : more ∉ (firsts k 6).map (·.1) := by
  have e : (firsts k 6).map (·.1) = (List.range 6).map nm := by unfold firsts; rw [List.map_map]; rfl
  rw [e]
  have h : ∀ j, j < 6 → ¬ nm j = more := by decide +kernel
  intro hm
  obtain ⟨j, hj, e2⟩ := List.mem_map.1 hm
  exact h j (List.mem_range.1 hj) e2

theorem nm_ok : ∀ i, i < 6 → nameOk (nm i) = true := by decide +kernel
theorem more_ok : nameOk more = true := by decide +kernel

/-- Two have begun, the second is over. -/
def log2a : LogM := log2.abort 2

theorem count2 : ∀ k, k < 7 → ∀ i, i < 7 → (firsts k i).countP (fun p => log2.state p.2.xmin != 3) = i := by decide +kernel
theorem count2a : ∀ k, k < 7 → (firsts k 6).countP (fun p => log2a.state p.2.xmin != 3) = k := by decide +kernel

theorem most_put {N : NM} {k i : Nat} (hk : k < 7) (hi : i < 6) (h : Fresh N (firsts k i)) :
    (N.put log2 (if k ≤ i then 2 else 1) (tabA (nm i) 1)).2 = 0 ∧ Fresh (N.put log2 (if k ≤ i then 2 else 1) (tabA (nm i) 1)).1 (firsts k (i + 1)) := by
  have hok : putOk log2 (if k ≤ i then 2 else 1) (tabA (nm i) 1) = true := putOk_A (by split <;> rfl) (nm_ok i hi) (by decide)
  rcases h.put (L := log2) (t := tabA (nm i) 1) (nm_new i hi k) hok with ⟨h6, _⟩ | ⟨_, h1, h2⟩
  · rw [count2 k hk i (by omega)] at h6; omega
  · refine ⟨h1, ?_⟩
    rw [firsts_succ]
    exact h2

theorem most_no {N : NM} {k : Nat} (hk : k < 7) (h : Fresh N (firsts k 6)) (x : Int) (hx : log2.state x = 1) : N.put log2 x (tabA more 1) = (N, 3) := by
  rcases h.put (L := log2) (t := tabA more 1) (more_new k) (putOk_A hx more_ok (by decide)) with ⟨_, h1⟩ | ⟨h6, _⟩
  · exact h1
  · rw [count2 k hk 6 (by omega)] at h6; omega

theorem most_last {N : NM} {k : Nat} (hk : k < 7) (h : Fresh N (firsts k 6)) : (N.put log2a 1 (tabA more 1)).2 = if k < 6 then 0 else 3 := by
  rcases h.put (L := log2a) (x := 1) (t := tabA more 1) (more_new k) (putOk_A (by rfl) more_ok (by decide)) with ⟨h6, h1⟩ | ⟨h6, h1, _⟩
  · rw [count2a k hk] at h6; rw [h1, if_neg (by omega)]
  · rw [count2a k hk] at h6; rw [h1, if_pos h6]

end Go.Proofs.Ytapkmgmcccgejaa

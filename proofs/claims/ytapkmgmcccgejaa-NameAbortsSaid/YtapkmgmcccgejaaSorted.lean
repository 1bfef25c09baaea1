/- slices.Sorted(maps.Keys(m)) at a map of whole numbers that lies as our own maps lie. -/
import Derived.Test.YtapkmgmcccgejaaLayInt
import Derived.Test.YtapkmgmcccgejaaMap
namespace Go.Proofs.Ytapkmgmcccgejaa
open Go.RowKit Go.Maps Go.Sort Go.Shelf

/-- A number that an int can be. -/
def Is64 (a : Int) : Prop := -9223372036854775808 ≤ a ∧ a ≤ 9223372036854775807

theorem Is64.wf {a : Int} (h : Is64 a) : (Lit.int .i64 a).wf = true := WalkArith.wf_i64 h

def anyR : Value → Option (DataW Unit × List MemPlace) := fun _ => some (.lit (.bool true), [])

theorem rd_any {x : Ent Int} (h : Is64 x.1) : WideElems.rd Try.prog 3 anyR (toE (Value.int .i64) x) = some (.int .i64 x.1, .lit (.bool true)) := by
  unfold WideElems.rd toE
  simp only
  rw [Maps.keyOf_int_mk Try.underlying3 h.wf]
  rfl

theorem rg_any {x : Ent Int} (h : Is64 x.1) : WideElems.rg Try.prog 3 anyR (toE (Value.int .i64) x) = (.int .i64 x.1, .lit (.bool true)) := by
  unfold WideElems.rg
  rw [rd_any h]; rfl

theorem owns_of_map {w : World} {b ck : Nat} {m : List (Ent Int)} (h : MapAt w b (Value.int .i64) m ck) (hk : ∀ x ∈ m, Is64 x.1) (hn : m.length ≤ maxLen) :
    ∃ D : DataW Unit, w.ownsMap Try.prog 3 anyR b m.length D ∧ (intKeys D).Perm (m.map (·.1)) ∧ Maps.size D = m.length := by
  refine ⟨_, ⟨_, ck, h.heap, ⟨by simpa using hn, ⟨?_, ?_, ?_⟩, ?_⟩, by simp, rfl⟩, ?_, ?_⟩
  · intro x hx
    simp only [List.mem_map] at hx
    obtain ⟨y, hy, rfl⟩ := hx
    exact h.old y hy
  · rw [List.map_map]; exact h.born
  · rw [List.map_map]
    have : (m.map ((fun e : MapEntry => e.key) ∘ toE (Value.int .i64))) = (m.map (·.1)).map (Value.int .i64) := by rw [List.map_map]; rfl
    rw [this]
    exact List.Pairwise.map _ (fun a b hne e => hne (by cases e; rfl)) h.keys
  · intro x hx
    simp only [List.mem_map] at hx
    obtain ⟨y, hy, rfl⟩ := hx
    exact ⟨_, rd_any (hk y hy)⟩
  · have e1 : (m.map (toE (Value.int .i64))).map (WideElems.rg Try.prog 3 anyR) = m.map (fun x => ((Lit.int .i64 x.1, DataW.lit (.bool true)) : Lit × DataW Unit)) := by
      rw [List.map_map]
      apply List.map_congr_left
      intro x hx
      simp only [Function.comp]
      exact rg_any (hk x hx)
    show ((((m.map (toE (Value.int .i64))).toArray.toList.map (WideElems.rg Try.prog 3 anyR)).foldr DataW.insert []).map _).Perm _
    rw [e1]
    refine ((WideShapes.sorted_perm _).map _).trans ?_
    rw [List.map_map]
    exact List.Perm.of_eq (List.map_congr_left (fun x _ => rfl))
  · show (((m.map (toE (Value.int .i64))).toArray.toList.map _).foldr DataW.insert []).length = _
    rw [length_sorted]; simp

theorem sortedKeys {W : World} {b ck Bm : Nat} {m : List (Ent Int)} (h : MapAt W b (Value.int .i64) m ck) (hk : ∀ x ∈ m, Is64 x.1) (hn : m.length ≤ 1000000) (hB : W.cell? ⟨Bm, 0, none⟩ = some (.map (some b))) :
    Calls Try.prog 40 #[.func (.func 55) #[] #[.pointer (some ⟨Bm, 0, none⟩)]] W fun e w' => ∃ (v : Value) (ss : List Int), e = .returned v ∧ ss.Perm (m.map (·.1)) ∧
      w'.ownsRow W.heap.size 3 1 v ss.length ((ss.mergeSort (fun x y => decide (x ≤ y))).map (Value.int .i64)) ∧ Tur None' W w' := by
  obtain ⟨D, hown, hperm, hsize⟩ := owns_of_map h hk (by unfold maxLen; omega)
  have hseq : SeqGives Fence.wide 2 Try.prog 55 #[.pointer (some ⟨Bm, 0, none⟩)] encZ (fun ss => ss.Perm (intKeys D)) (Maps.size D) W :=
    AnyZI.keys_gives (ρ := Try.keysInt_ren) { Try.keysInt with } Fence.wide _ trivial rfl (by omega) Bm b m.length D _ (cell_lt hB) hB hown
  have cS := AnyZI.sorted_in Try.sortedInt Fence.wide 5 trivial trivial trivial trivial rfl (by omega) (Try.sortsInt _) (enters_of Try.func54 (by kernel_rfl) rfl) 55 #[.pointer (some ⟨Bm, 0, none⟩)] trivial (enters_of Try.func55 (by kernel_rfl) rfl) _ _ (by rw [hsize]; unfold maxLen; omega) (by rw [hsize]; omega) _ hseq
  refine (callsIn_wide.1 cS).mono ?_
  rintro e w' ⟨v, ss, rfl, hS, hrow, _, hb⟩
  exact ⟨v, ss, rfl, hS.trans hperm, hrow, Tur.of_below hb None'⟩

theorem mapsKeys (mb : Nat) (W : World) :
    Calls Try.prog 41 #[.map (some mb)] W fun e w' => e = .returned (.func (.func 55) #[] #[.pointer (some ⟨W.heap.size, 0, none⟩)]) ∧ w' = W.alloc (.cells #[.map (some mb)] 88) :=
  callsIn_wide.1 (AnyZI.keys_in Try.keysInt Fence.wide 5 trivial rfl (some mb) W)

end Go.Proofs.Ytapkmgmcccgejaa

/- New names, the table of one column, and the comparing of ints. -/
import Derived.Test.YtapkmgmcccgejaaAllA
import Derived.BigQuiet
namespace Go.Proofs.Ytapkmgmcccgejaa
open Go.RowKit Go.Shelf

theorem NM.Ok.empty : NM.empty.Ok 0 := ⟨by simp [NM.empty], by simp [NM.empty], by simp [NM.empty]⟩

theorem namesNew (w : World) : Calls Try.prog 8 #[] w fun e w' => e = .returned (.pointer (some ⟨w.heap.size + 1, 0, none⟩)) ∧ NamesIn w' (w.heap.size + 1) w.heap.size NM.empty ∧ Tur None' w w' := by
  have hmm := @run_makeMap Try.prog
  go_enter Try.func8, Try.ntmps8
  go_wp2
  go_ret
  refine ⟨rfl, ?_, ((Tur.refl _ _).alloc _).alloc _⟩
  refine ⟨w.heap.size, 0, [], ?_, (MapAt.made w Value.string).tur ((Tur.refl None' _).alloc _) (fun h => h), by omega, Nat.le_refl _, rfl, fun s _ => rfl, fun s v h => by simp [look] at h, fun s s' v v' g h => by simp [look] at h⟩
  have h := (MapKept.heap_alloc (w.alloc (.map #[] 0)) (Obj.cells #[.map (some w.heap.size)] 61)).1
  simpa using h

/-- The column of every table that the statements make. -/
def colA : Col := ⟨⟨#[97]⟩, 2, false, ⟨0, 0, 0, ⟨#[]⟩⟩⟩
def tabA (s : ByteArray) (rel : Int) : Tab := ⟨s, [colA], rel⟩

theorem tab_any (w : World) (s : ByteArray) (rel : Int) :
    Calls Try.prog 11 #[.string s, .int .i64 rel] w fun e w' => ∃ cv blk, e = .returned ((tabA s rel).agg cv) ∧ ColsAt w' cv [colA] blk ∧ KindAt w' blk 3 ∧ Tur None' w w' := by
  go_enter Try.func11, Try.ntmps11
  go_wp2
  have hh : ∀ (w1 : World) (o : Obj), (w1.alloc o).heap[w1.heap.size]? = some o := fun w1 o => (MapKept.heap_alloc w1 o).1
  have hs : (w.alloc (Obj.cells #[.string s, .slice (some ⟨w.heap.size + 1, 0, none⟩) 1 1, .int .i64 rel] 32)).heap.size = w.heap.size + 1 := by simp
  have hb := hh (w.alloc (Obj.cells #[.string s, .slice (some ⟨w.heap.size + 1, 0, none⟩) 1 1, .int .i64 rel] 32)) (Obj.cells #[.string ⟨#[97]⟩, .int .i64 2, .bool false, .int .i64 0, .int .i64 0, .float .f64 0, .string ⟨#[]⟩] 73)
  rw [hs] at hb
  refine bodyPost_ret (v := .agg #[.string s, .slice (some ⟨w.heap.size + 1, 0, none⟩) 1 1, .int .i64 rel]) (by simp [results, Try.results11, go_sem]) rfl ⟨_, w.heap.size + 1, rfl, ⟨⟨_, 1, 0, rfl, fun _ => rfl, fun i c hi => ?_⟩, ?_, by simp [maxLen]⟩, ⟨_, hb, rfl⟩, ((Tur.refl _ _).alloc _).alloc _⟩
  · cases i with
    | succ i => simp at hi
    | zero =>
      simp only [List.getElem?_cons_zero, Option.some.injEq] at hi
      subst hi
      refine ⟨?_, ?_, ?_, ?_, ?_, ?_, ?_⟩ <;> simp only [World.cell?, hb] <;> rfl
  · intro c hc
    simp only [List.mem_singleton] at hc
    subst hc
    exact ⟨by decide, by decide⟩

set_option maxRecDepth 100000 in
set_option maxHeartbeats 1000000 in
theorem ints_any {w : World} {B1 B2 : Nat} {v1 v2 : Value} {l1 l2 : List Int} (h1 : IntsAt w B1 v1 l1) (h2 : IntsAt w B2 v2 l2) :
    Calls Try.prog 30 #[v1, v2] w fun e w' => e = .returned (.bool (l1 == l2)) ∧ Tur None' w w' := by
  obtain ⟨a1, c1, rfl, hl1, hc1⟩ := h1.form
  obtain ⟨a2, c2, rfl, hl2, hc2⟩ := h2.form
  unfold maxLen at hl1 hl2
  have hc1' : ∀ (wr : World) k z, Tur None' w wr → l1[k]? = some z → ∃ g, a1 = some ⟨g, 0, none⟩ ∧ wr.cell? ⟨g, k, none⟩ = some (.int .i64 z) := fun wr k z t hk => by obtain ⟨g, e, h⟩ := hc1 k z hk; exact ⟨g, e, t.cell' h (fun h => h)⟩
  have hc2' : ∀ (wr : World) k z, Tur None' w wr → l2[k]? = some z → ∃ g, a2 = some ⟨g, 0, none⟩ ∧ wr.cell? ⟨g, k, none⟩ = some (.int .i64 z) := fun wr k z t hk => by obtain ⟨g, e, h⟩ := hc2 k z hk; exact ⟨g, e, t.cell' h (fun h => h)⟩
  have Hc1 := Lib.hid hc1'
  have Hc2 := Lib.hid hc2'
  clear hc1 hc2 hc1' hc2' h1 h2
  by_cases hlen : l1.length = l2.length
  · go_enter Try.func30, Try.ntmps30
    go_wp2
    go_loopw [5] (fun i wr => ∃ k : Nat, k ≤ l1.length ∧ i = .int .i64 k ∧ l1.take k = l2.take k ∧ Tur None' w wr) (fun i _ => l1.length - (intOf i).toNat)
    case atStart => exact ⟨0, Nat.zero_le _, rfl, by simp, Tur.refl _ _⟩
    case round =>
      obtain ⟨k, hk, rfl, heq, ht⟩ := hrel
      have Heq := Lib.hid heq
      clear heq
      by_cases hlt : k < l1.length
      · obtain ⟨z1, hz1⟩ : ∃ z, l1[k]? = some z := ⟨l1[k], List.getElem?_eq_getElem hlt⟩
        obtain ⟨z2, hz2⟩ : ∃ z, l2[k]? = some z := ⟨l2[k], List.getElem?_eq_getElem (by omega)⟩
        obtain ⟨g1, rfl, hg1⟩ := Hc1.out wr k z1 ht hz1
        obtain ⟨g2, rfl, hg2⟩ := Hc2.out wr k z2 ht hz2
        have Z := Lib.hid (And.intro hz1 hz2)
        clear hz1 hz2
        by_cases hz : z1 = z2
        · subst hz
          go_wp2_with fail
          go_quiet (fail)
          go_wp2
          refine ⟨⟨k + 1, by omega, by go_num, ?_, ht.drewN _⟩, by simp [intOf]; omega⟩
          rw [List.take_add_one, List.take_add_one, Z.out.1, Z.out.2, Heq.out]
        · have hz' : (z1 != z2) = true := by simp [hz]
          go_wp2_with fail
          go_quiet (fail)
          go_wp2
          go_ret
          refine ⟨?_, ht.drewN _⟩
          have he : (l1 == l2) = false := by
            rw [Bool.eq_false_iff]; intro h
            have := eq_of_beq h
            have z := Z.out
            rw [this, z.2] at z
            exact hz (Option.some.inj z.1).symm
          rw [he]
          rfl
      · go_wp2
        go_ret
        refine ⟨?_, ht⟩
        have e := Heq.out
        rw [List.take_of_length_le (by omega), List.take_of_length_le (by omega)] at e
        rw [e]; exact ret_bool (by simp)
  · have hne : ¬ ((l1.length : Int) = l2.length) := by omega
    have he : (l1 == l2) = false := by
      rw [Bool.eq_false_iff]; intro h
      exact hlen (by rw [eq_of_beq h])
    rw [he]
    go_enter Try.func30, Try.ntmps30
    go_wp2
    go_ret
    exact ⟨ret_bool (by simp; try omega), Tur.refl _ _⟩

end Go.Proofs.Ytapkmgmcccgejaa

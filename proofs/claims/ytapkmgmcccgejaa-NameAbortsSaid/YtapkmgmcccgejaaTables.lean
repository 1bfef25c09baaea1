/- liverykeep's Value, Columns, Table and Tables say yes of what is the same. -/
import Derived.Test.YtapkmgmcccgejaaAllG
import Derived.Test.YtapkmgmcccgejaaNew
import Derived.Deep.RegionHeld3
namespace Go.Proofs.Ytapkmgmcccgejaa
open Go.RowKit Go.Shelf

set_option maxRecDepth 100000 in
theorem sameValue (v : Val) (w : World) : Calls Try.prog 70 #[.agg #[.int .i64 v.kind, .int .i64 v.n, .float .f64 v.f, .string v.s], .agg #[.int .i64 v.kind, .int .i64 v.n, .float .f64 v.f, .string v.s]] w fun e w' => e = .returned (.bool true) ∧ Tur None' w w' := by
  obtain ⟨k, n, f, s⟩ := v
  go_enter Try.func70, Try.ntmps70
  go_wp2
  go_quiet (fail)
  go_wp2
  go_ret
  exact ⟨by simp, (((Tur.refl _ _).alloc _).alloc _).drewN _⟩


set_option maxRecDepth 100000 in
set_option maxHeartbeats 2000000 in
theorem sameColumns {w : World} {v1 v2 : Value} {cols : List Col} {b1 b2 : Nat} (h1 : ColsAt w v1 cols b1) (h2 : ColsAt w v2 cols b2) :
    Calls Try.prog 52 #[v1, v2] w fun e w' => e = .returned (.bool true) ∧ Tur None' w w' := by
  have hlen := h1.len
  obtain ⟨⟨a1, cap1, off1, rfl, ha1, hc1⟩, _, _⟩ := h1
  obtain ⟨⟨a2, cap2, off2, rfl, ha2, hc2⟩, _, _⟩ := h2
  unfold maxLen at hlen
  have Ha1 := Lib.hid ha1
  have Hc1 := Lib.hid hc1
  have Ha2 := Lib.hid ha2
  have Hc2 := Lib.hid hc2
  clear ha1 hc1 ha2 hc2
  go_enter Try.func52, Try.ntmps52
  go_wp2
  go_loopw [5] (fun i wr => ∃ k : Nat, k ≤ cols.length ∧ i = .int .i64 k ∧ Tur None' w wr) (fun i _ => cols.length - (intOf i).toNat)
  case atStart => exact ⟨0, Nat.zero_le _, rfl, Tur.refl _ _⟩
  case round =>
    obtain ⟨k, hk, rfl, ht⟩ := hrel
    by_cases hlt : k < cols.length
    · obtain ⟨c, hcc⟩ : ∃ c, cols[k]? = some c := ⟨cols[k], List.getElem?_eq_getElem hlt⟩
      have ea := Ha1.out (by rintro rfl; simp at hcc)
      subst ea
      have eb := Ha2.out (by rintro rfl; simp at hcc)
      subst eb
      have g := (Hc1.out k c hcc).tur ht (fun h => h)
      have g' := (Hc2.out k c hcc).tur ht (fun h => h)
      obtain ⟨nm, kd, nn, vk, vn, vf, vs⟩ := c
      obtain ⟨g0, g1, g2, g3, g4, g5, g6⟩ := g
      obtain ⟨e0, e1, e2, e3, e4, e5, e6⟩ := g'
      clear hcc
      go_wp2_with fail
      have HK := Lib.hid (show ∀ w', Tur None' wr w' → (w'.cell? ⟨b1, off1 + k * 7, none⟩ = some (.string nm) ∧ w'.cell? ⟨b1, off1 + k * 7 + 1, none⟩ = some (.int .i64 kd) ∧ w'.cell? ⟨b1, off1 + k * 7 + 2, none⟩ = some (.bool nn) ∧ w'.cell? ⟨b1, off1 + k * 7 + 3, none⟩ = some (.int .i64 vk) ∧ w'.cell? ⟨b1, off1 + k * 7 + 4, none⟩ = some (.int .i64 vn) ∧ w'.cell? ⟨b1, off1 + k * 7 + 5, none⟩ = some (.float .f64 vf) ∧ w'.cell? ⟨b1, off1 + k * 7 + 6, none⟩ = some (.string vs) ∧ w'.cell? ⟨b2, off2 + k * 7, none⟩ = some (.string nm) ∧ w'.cell? ⟨b2, off2 + k * 7 + 1, none⟩ = some (.int .i64 kd) ∧ w'.cell? ⟨b2, off2 + k * 7 + 2, none⟩ = some (.bool nn) ∧ w'.cell? ⟨b2, off2 + k * 7 + 3, none⟩ = some (.int .i64 vk) ∧ w'.cell? ⟨b2, off2 + k * 7 + 4, none⟩ = some (.int .i64 vn) ∧ w'.cell? ⟨b2, off2 + k * 7 + 5, none⟩ = some (.float .f64 vf) ∧ w'.cell? ⟨b2, off2 + k * 7 + 6, none⟩ = some (.string vs)) from fun w' t1' => ⟨(t1'.cell' g0 (fun h => h)), (t1'.cell' g1 (fun h => h)), (t1'.cell' g2 (fun h => h)), (t1'.cell' g3 (fun h => h)), (t1'.cell' g4 (fun h => h)), (t1'.cell' g5 (fun h => h)), (t1'.cell' g6 (fun h => h)), (t1'.cell' e0 (fun h => h)), (t1'.cell' e1 (fun h => h)), (t1'.cell' e2 (fun h => h)), (t1'.cell' e3 (fun h => h)), (t1'.cell' e4 (fun h => h)), (t1'.cell' e5 (fun h => h)), (t1'.cell' e6 (fun h => h))⟩)
      have key := HK.out wr (Tur.refl _ _)
      go_region_held3 (fun w' => w'.cell? ⟨b1, off1 + k * 7, none⟩ = some (.string nm) ∧ w'.cell? ⟨b1, off1 + k * 7 + 1, none⟩ = some (.int .i64 kd) ∧ w'.cell? ⟨b1, off1 + k * 7 + 2, none⟩ = some (.bool nn) ∧ w'.cell? ⟨b1, off1 + k * 7 + 3, none⟩ = some (.int .i64 vk) ∧ w'.cell? ⟨b1, off1 + k * 7 + 4, none⟩ = some (.int .i64 vn) ∧ w'.cell? ⟨b1, off1 + k * 7 + 5, none⟩ = some (.float .f64 vf) ∧ w'.cell? ⟨b1, off1 + k * 7 + 6, none⟩ = some (.string vs) ∧ w'.cell? ⟨b2, off2 + k * 7, none⟩ = some (.string nm) ∧ w'.cell? ⟨b2, off2 + k * 7 + 1, none⟩ = some (.int .i64 kd) ∧ w'.cell? ⟨b2, off2 + k * 7 + 2, none⟩ = some (.bool nn) ∧ w'.cell? ⟨b2, off2 + k * 7 + 3, none⟩ = some (.int .i64 vk) ∧ w'.cell? ⟨b2, off2 + k * 7 + 4, none⟩ = some (.int .i64 vn) ∧ w'.cell? ⟨b2, off2 + k * 7 + 5, none⟩ = some (.float .f64 vf) ∧ w'.cell? ⟨b2, off2 + k * 7 + 6, none⟩ = some (.string vs))
        (first | exact Key2.out | exact HK.out _ (Tur.refl _ _) | exact HK.out _ (Tur.refl _ _).drew | go_keep)
        ((go_at_call 70; refine (sameValue ⟨vk, vn, vf, vs⟩ _).mono ?_; rintro e w2 ⟨rfl, t2⟩; have t2' := (Tur.refl None' wr).drew.none_trans t2; have key2 := HK.out _ t2'; have Key2 := Lib.hid key2; have T2 := Lib.hid t2'; clear t2 t2'))
      go_wp2
      exact ⟨⟨k + 1, by omega, by go_num, ht.none_trans T2.out⟩, by simp [intOf]; omega⟩
    · go_wp2
      go_ret
      exact ⟨rfl, ht⟩

end Go.Proofs.Ytapkmgmcccgejaa

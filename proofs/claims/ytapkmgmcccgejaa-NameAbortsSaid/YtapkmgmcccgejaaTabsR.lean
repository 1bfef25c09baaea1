/- liverykeep.Table and Tables say yes of what is the same. -/
import Derived.Test.YtapkmgmcccgejaaTables
namespace Go.Proofs.Ytapkmgmcccgejaa
open Go.RowKit Go.Shelf

theorem TE.agg_of (x : TE) : Value.agg x.cells.toArray = .agg #[.string x.t.name, .slice x.a x.n x.cap, .int .i64 x.t.rel] := rfl

set_option maxRecDepth 100000 in
set_option maxHeartbeats 2000000 in
theorem sameTable {w : World} {nm : ByteArray} {rel : Int} {a1 a2 : Option Addr} {n1 n2 c1 c2 : Nat} {cols : List Col} {b1 b2 : Nat} (h1 : ColsAt w (.slice a1 n1 c1) cols b1) (h2 : ColsAt w (.slice a2 n2 c2) cols b2) :
    Calls Try.prog 37 #[.agg #[.string nm, .slice a1 n1 c1, .int .i64 rel], .agg #[.string nm, .slice a2 n2 c2, .int .i64 rel]] w fun e w' => e = .returned (.bool true) ∧ Tur None' w w' := by
  have H1 := Lib.hid h1
  have H2 := Lib.hid h2
  clear h1 h2
  have tA : Tur None' w ((w.alloc (Obj.cells #[.string nm, .slice a1 n1 c1, .int .i64 rel] 32)).alloc (Obj.cells #[.string nm, .slice a2 n2 c2, .int .i64 rel] 32)) := ((Tur.refl _ _).alloc _).alloc _
  have HA := Lib.hid tA
  clear tA
  go_enter Try.func37, Try.ntmps37
  go_wp2_with (go_at_call 52; go_must (refine (sameColumns (H1.out.tur HA.out (fun _ h => h)) (H2.out.tur HA.out (fun _ h => h))).mono ?_; rintro e w2 ⟨rfl, t2⟩))
  go_ret
  exact ⟨by simp, HA.out.none_trans t2⟩

/-- A slice of tables that may be read. -/
structure TabsR (w : World) (v : Value) (ts : List Tab) : Prop where
  ex : ∃ a cap, v = .slice a ts.length cap ∧ ∀ i t, ts[i]? = some t → ∃ g o a' n' c' blk, a = some ⟨g, o, none⟩ ∧ w.cell? ⟨g, o + i * 3, none⟩ = some (.string t.name) ∧ w.cell? ⟨g, o + i * 3 + 1, none⟩ = some (.slice a' n' c') ∧ w.cell? ⟨g, o + i * 3 + 2, none⟩ = some (.int .i64 t.rel) ∧ ColsAt w (.slice a' n' c') t.cols blk
  len : ts.length ≤ maxLen

theorem TabsAt.r {w : World} {B : Nat} {v : Value} {ts : List Tab} {cvs : List Value} (h : TabsAt w B v ts cvs) : TabsR w v ts := by
  have hlen : ts.length ≤ maxLen := by
    rcases ownsRow_shape h.own with ⟨_, h0⟩ | ⟨g, cap, _, _, h1, h2, _⟩
    · omega
    · omega
  refine ⟨?_, hlen⟩
  rcases ownsRow_shape h.own with ⟨rfl, h0⟩ | ⟨g, cap, rfl, _⟩
  · have : ts = [] := List.length_eq_zero_iff.1 h0
    subst this
    exact ⟨none, 0, rfl, fun i t hi => by simp at hi⟩
  · refine ⟨some ⟨g, 0, none⟩, cap, rfl, fun i t hi => ?_⟩
    have hi1 : i < ts.length := (List.getElem?_eq_some_iff.1 hi).1
    have hi2 : i < cvs.length := by rw [h.len]; exact hi1
    have hcv : cvs[i]? = some cvs[i] := List.getElem?_eq_getElem hi2
    have hz : (ts.zip cvs)[i]? = some (t, cvs[i]) := by rw [List.getElem?_zip_eq_some]; exact ⟨hi, hcv⟩
    have ho := h.cols i t _ hi hcv
    obtain ⟨a', n', c', e⟩ := ho.slice
    obtain ⟨blk, hc, _⟩ := ho.at
    rw [e] at hc
    have hget : ∀ j, j < 3 → ∀ u, (tabCells (t, cvs[i]))[j]? = some u → w.cell? ⟨g, i * 3 + j, none⟩ = some u := by
      intro j hj u hu
      have := flat_get (f := tabCells) (s := 3) tabCells_len (ts.zip cvs) i j (t, cvs[i]) hz hj
      rw [hu] at this
      exact ownsRow_cell h.own rfl this
    refine ⟨g, 0, a', n', c', blk, rfl, ?_, ?_, ?_, hc⟩
    · simpa using hget 0 (by decide) _ rfl
    · rw [Nat.zero_add, ← e]; exact hget 1 (by decide) _ rfl
    · rw [Nat.zero_add]; exact hget 2 (by decide) _ rfl

theorem TabsR.tur0 {w w' : World} {v : Value} {ts : List Tab} (h : TabsR w v ts) (t : Tur None' w w') : TabsR w' v ts := by
  obtain ⟨⟨a, cap, rfl, hc⟩, hlen⟩ := h
  refine ⟨⟨a, cap, rfl, fun i x hi => ?_⟩, hlen⟩
  obtain ⟨g, o, a', n', c', blk, e, h0, h1, h2, h3⟩ := hc i x hi
  exact ⟨g, o, a', n', c', blk, e, t.cell' h0 (fun h => h), t.cell' h1 (fun h => h), t.cell' h2 (fun h => h), h3.tur t (fun _ h => h)⟩

set_option maxRecDepth 100000 in
set_option maxHeartbeats 2000000 in
theorem sameTables {w : World} {v1 v2 : Value} {ts : List Tab} (h1 : TabsR w v1 ts) (h2 : TabsR w v2 ts) :
    Calls Try.prog 20 #[v1, v2] w fun e w' => e = .returned (.bool true) ∧ Tur None' w w' := by
  have hlen := h1.len
  have H1 := Lib.hid h1
  have H2 := Lib.hid h2
  obtain ⟨⟨a1, cap1, rfl, _⟩, _⟩ := h1
  obtain ⟨⟨a2, cap2, rfl, _⟩, _⟩ := h2
  unfold maxLen at hlen
  go_enter Try.func20, Try.ntmps20
  go_wp2
  go_loopw [5] (fun i wr => ∃ k : Nat, k ≤ ts.length ∧ i = .int .i64 k ∧ Tur None' w wr) (fun i _ => ts.length - (intOf i).toNat)
  case atStart => exact ⟨0, Nat.zero_le _, rfl, Tur.refl _ _⟩
  case round =>
    obtain ⟨k, hk, rfl, ht⟩ := hrel
    by_cases hlt : k < ts.length
    · obtain ⟨t, htt⟩ : ∃ t, ts[k]? = some t := ⟨ts[k], List.getElem?_eq_getElem hlt⟩
      obtain ⟨⟨x1, y1, e1, hc1⟩, _⟩ := H1.out.tur0 ht
      obtain ⟨⟨x2, y2, e2, hc2⟩, _⟩ := H2.out.tur0 ht
      cases e1
      cases e2
      obtain ⟨g, o, a', n', c', blk, rfl, k0, k1, k2, hcol⟩ := hc1 k t htt
      obtain ⟨g', o', a'', n'', c'', blk', rfl, l0, l1, l2, hcol'⟩ := hc2 k t htt
      have HC := Lib.hid (And.intro hcol hcol')
      obtain ⟨nm, cols, rel⟩ := t
      clear hc1 hc2 htt hcol hcol'
      have HK := Lib.hid (show ∀ w', Tur None' wr w' → (w'.cell? ⟨g, o + k * 3, none⟩ = some (.string nm) ∧ w'.cell? ⟨g, o + k * 3 + 1, none⟩ = some (.slice a' n' c') ∧ w'.cell? ⟨g, o + k * 3 + 2, none⟩ = some (.int .i64 rel) ∧ w'.cell? ⟨g', o' + k * 3, none⟩ = some (.string nm) ∧ w'.cell? ⟨g', o' + k * 3 + 1, none⟩ = some (.slice a'' n'' c'') ∧ w'.cell? ⟨g', o' + k * 3 + 2, none⟩ = some (.int .i64 rel)) from fun w' t1' => ⟨t1'.cell' k0 (fun h => h), t1'.cell' k1 (fun h => h), t1'.cell' k2 (fun h => h), t1'.cell' l0 (fun h => h), t1'.cell' l1 (fun h => h), t1'.cell' l2 (fun h => h)⟩)
      go_wp2_with fail
      go_region_held3 (fun w' => w'.cell? ⟨g, o + k * 3, none⟩ = some (.string nm) ∧ w'.cell? ⟨g, o + k * 3 + 1, none⟩ = some (.slice a' n' c') ∧ w'.cell? ⟨g, o + k * 3 + 2, none⟩ = some (.int .i64 rel) ∧ w'.cell? ⟨g', o' + k * 3, none⟩ = some (.string nm) ∧ w'.cell? ⟨g', o' + k * 3 + 1, none⟩ = some (.slice a'' n'' c'') ∧ w'.cell? ⟨g', o' + k * 3 + 2, none⟩ = some (.int .i64 rel))
        (first | exact Key2.out | exact HK.out _ (Tur.refl _ _) | exact HK.out _ (Tur.refl _ _).drew | go_keep)
        ((go_at_call 37; refine (sameTable (HC.out.1.tur (Tur.refl None' wr).drew (fun _ h => h)) (HC.out.2.tur (Tur.refl None' wr).drew (fun _ h => h))).mono ?_; rintro e w2 ⟨rfl, t2⟩; have t2' := (Tur.refl None' wr).drew.none_trans t2; have key2 := HK.out _ t2'; have Key2 := Lib.hid key2; have T2 := Lib.hid t2'; clear t2 t2'))
      go_wp2
      exact ⟨⟨k + 1, by omega, by go_num, ht.none_trans T2.out⟩, by simp [intOf]; omega⟩
    · go_wp2
      go_ret
      exact ⟨rfl, ht⟩

end Go.Proofs.Ytapkmgmcccgejaa

/- Put: what May says, and too many names. -/
import Derived.Test.YtapkmgmcccgejaaPut
import Derived.Deep.RegionHeld3
import Derived.Deep.AppendLies
namespace Go.Proofs.Ytapkmgmcccgejaa
open Go.RowKit Go.Shelf

theorem putOk_parts {L : LogM} {x : Int} {t : Tab} (h : putOk L x t = true) : (L.state x != 1) = false ∧ nameOk t.name = true ∧ goodCols t.cols = true ∧ 1 ≤ t.rel ∧ t.rel ≤ 100 := by
  unfold putOk at h
  simp only [Bool.and_eq_true, decide_eq_true_eq, beq_iff_eq] at h
  exact ⟨by simp [h.1.1.1.1], h.1.1.1.2, h.1.1.2, h.1.2, h.2⟩

theorem goodCols_len {cols : List Col} (h : goodCols cols = true) : cols.length ≤ 6 := by
  unfold goodCols at h
  exact (of_decide_eq_true h).2.1

theorem infoVer : (Try.prog.info? 66).map (fun i => (i.zero, i.size, i.bytes)) = some (some (.agg #[.int .i64 0, .int .i64 0, .string ByteArray.empty, .slice none 0 0, .int .i64 0]), 5, 64) := by kernel_rfl

theorem NamesAt.lookup_none {w : World} {b B : Nat} {N : NM} {mb ck : Nat} {m : List (Ent ByteArray)} (h : NamesAt w b B N mb ck m) {s : ByteArray} (hs : look s m = none) :
    (Instr.lookup 59 (.map (some mb)) (.string s) false).run Try.prog w = .ok (.slice none 0 0) w := by
  have hl := run_lookup_at (klaw_string Try.underlying9) Try.underlying59 (zeroVers w) h.map s
  rw [hs] at hl; exact hl

theorem NamesAt.lookup_some {w : World} {b B : Nat} {N : NM} {mb ck : Nat} {m : List (Ent ByteArray)} (h : NamesAt w b B N mb ck m) {s : ByteArray} {v : Value} (hs : look s m = some v) :
    (Instr.lookup 59 (.map (some mb)) (.string s) false).run Try.prog w = .ok v w := by
  have hl := run_lookup_at (klaw_string Try.underlying9) Try.underlying59 (zeroVers w) h.map s
  rw [hs] at hl; exact hl

/-- The four cells that are read. -/
abbrev Cells4 (nb tb mb : Nat) (nm : ByteArray) (sv : Value) (rel : Int) (w : World) : Prop :=
  w.cell? ⟨nb, 0, none⟩ = some (.map (some mb)) ∧ w.cell? ⟨tb, 0, none⟩ = some (.string nm) ∧ w.cell? ⟨tb, 1, none⟩ = some sv ∧ w.cell? ⟨tb, 2, none⟩ = some (.int .i64 rel)

theorem put_key {w2 w3 : World} {row : Option Nat} (hg : w2.grownBy w3 row) {nb tb mb : Nat} {nm : ByteArray} {sv : Value} {rel : Int} (h : Cells4 nb tb mb nm sv rel w2)
    (l1 : nb < w2.heap.size) (l2 : tb < w2.heap.size) (h1 : row = some nb → False) (h2 : row = some tb → False) : Cells4 nb tb mb nm sv rel w3 :=
  ⟨(hg.cell_far _ l1 (fun e => h1 e.symm)).trans h.1, (hg.cell_far _ l2 (fun e => h2 e.symm)).trans h.2.1, (hg.cell_far _ l2 (fun e => h2 e.symm)).trans h.2.2.1, (hg.cell_far _ l2 (fun e => h2 e.symm)).trans h.2.2.2⟩

theorem put_key4 {w3 w4 : World} {nb tb mb : Nat} {nm : ByteArray} {sv : Value} {rel : Int} (t : Tur (· = mb) w3 w4) (h : Cells4 nb tb mb nm sv rel w3) (h1 : nb ≠ mb) (h2 : tb ≠ mb) : Cells4 nb tb mb nm sv rel w4 :=
  ⟨t.cell' h.1 h1, t.cell' h.2.1 h2, t.cell' h.2.2.1 h2, t.cell' h.2.2.2 h2⟩

theorem put_map {w2 w3 : World} {b B : Nat} {N : NM} {mb ck : Nat} {m : List (Ent ByteArray)} (h : NamesAt w2 b B N mb ck m) {row : Option Nat} (hg : w2.grownBy w3 row) (h1 : row = some mb → False) : MapAt w3 mb Value.string m ck :=
  ⟨(hg.block mb h.map.lt (fun e => h1 e.symm)).trans h.map.heap, h.map.keys, h.map.born, h.map.old⟩

/-- A name's slice, also where there is none; its look-up. -/
theorem NamesAt.slot {w : World} {b B : Nat} {N : NM} {mb ck : Nat} {m : List (Ent ByteArray)} (h : NamesAt w b B N mb ck m) (s : ByteArray) :
    ∃ a0 cap0 cvs, (look s m).getD (.slice none 0 0) = .slice a0 (N.f s).length cap0 ∧ VersAt w B (.slice a0 (N.f s).length cap0) (N.f s) cvs ∧
      ∀ w2, NamesAt w2 b B N mb ck m → (Instr.lookup 59 (.map (some mb)) (.string s) false).run Try.prog w2 = .ok (.slice a0 (N.f s).length cap0) w2 := by
  obtain ⟨cvs, hv⟩ := h.owns s
  have hsh : ∃ a0 cap0, (look s m).getD (.slice none 0 0) = .slice a0 (N.f s).length cap0 := by
    rcases ownsRow_shape hv.own with ⟨e, h0⟩ | ⟨g, cap, e, _⟩
    · exact ⟨none, 0, by rw [e, h0]⟩
    · exact ⟨_, cap, e⟩
  obtain ⟨a0, cap0, e⟩ := hsh
  rw [e] at hv
  refine ⟨a0, cap0, cvs, e, hv, fun w2 h2 => ?_⟩
  have hl := run_lookup_at (klaw_string Try.underlying9) Try.underlying59 (zeroVers w2) h2.map s
  rw [e] at hl; exact hl

theorem NamesAt.slot_kind {w : World} {b B : Nat} {N : NM} {mb ck : Nat} {m : List (Ent ByteArray)} (h : NamesAt w b B N mb ck m) {s : ByteArray} {g : Nat} (hg : ((look s m).getD (.slice none 0 0)).ownBlock = some g) : B ≤ g ∧ KindAt w g 2 := by
  obtain ⟨cvs, hv⟩ := h.owns s
  exact ⟨ownsRow_ge hv.own hg, hv.kind hg⟩

theorem NamesAt.slot_block {w : World} {b B : Nat} {N : NM} {mb ck : Nat} {m : List (Ent ByteArray)} (h : NamesAt w b B N mb ck m) {s : ByteArray} {a0 : Option Addr} {n cap0 : Nat} {cvs : List Value} (e : (look s m).getD (.slice none 0 0) = .slice a0 n cap0) (hv : VersAt w B (.slice a0 n cap0) (N.f s) cvs) :
    ∀ g, (Value.slice a0 n cap0).ownBlock = some g → B ≤ g ∧ KindAt w g 2 ∧ g < w.heap.size ∧ g ≠ b ∧ g ≠ mb := by
  intro g hg
  have hk := hv.kind hg
  exact ⟨ownsRow_ge hv.own hg, hk, hk.lt, fun e2 => by subst e2; have := hk.fn h.kind_box; omega, fun e2 => by subst e2; have := hk.fn h.kind_map; omega⟩

section
variable {w : World} {lb nb B blk : Nat} {L : LogM} {N : NM} {M : Nat}

set_option maxRecDepth 100000 in
set_option maxHeartbeats 4000000 in
theorem put_may (hl : LogAt w lb L) (hn : NamesIn w nb B N) (hok : N.Ok M) (hM : M ≤ 100000) (x : Int) (t : Tab) {cv : Value} (hcv : ColsAt w cv t.cols blk) (hnm : t.name.size ≤ maxLen) (hyes : putOk L x t = true) (hm : (N.may L x t.name).1 ≠ 0) :
    Calls Try.prog 10 #[.pointer (some ⟨nb, 0, none⟩), .pointer (some ⟨lb, 0, none⟩), .int .i64 x, t.agg cv] w
      fun e w' => e = .returned (.int .i64 (N.may L x t.name).1) ∧ Tur None' w w' := by
  obtain ⟨nm, cols, rel⟩ := t
  have hl' : ∀ w2, Tur None' w w2 → LogAt w2 lb L ∧ ColsAt w2 cv cols blk ∧ NamesIn w2 nb B N := fun w2 t => ⟨hl.tur t (fun h => h), hcv.tur t (fun _ h => h), hn.tur0 t⟩
  have Hl := Lib.hid hl'
  have Hcv := Lib.hid hcv
  obtain ⟨⟨a, cap, off, rfl, _⟩, _, _⟩ := hcv
  have hr := Run.start w (Obj.cells #[.string nm, .slice a cols.length cap, .int .i64 rel] 32)
  have Hnm := Lib.hid hnm
  obtain ⟨h1, h2, h3, h41, h42⟩ := putOk_parts hyes
  simp only at h1 h2 h3 h41 h42
  have H1 := Lib.hid h1
  have H2 := Lib.hid h2
  have H3 := Lib.hid h3
  have h4 : ¬ rel < 1 := by omega
  have H64 := Lib.hid (show ∀ v ∈ N.f nm, Is64 v.xmin ∧ Is64 v.xmax from fun v hv => ⟨(hok.ver nm v hv).1, (hok.ver nm v hv).2.1⟩)
  have H5 := Lib.hid (show (N.f nm).length ≤ 100000 from by have := hok.len nm; omega)
  have H6 := Lib.hid (show N.keys.length ≤ 100000 from by have := hok.keys; omega)
  have Hok := Lib.hid hok
  simp only at hm
  have hmb : ((N.may L x nm).1 != 0) = true := by simp [hm]
  have HM := Lib.hid (show N.may L x nm = ((N.may L x nm).1, (N.may L x nm).2) from rfl)
  clear h1 h2 h3 hl' hl hnm hok hyes hn hm Hcv
  generalize (N.may L x nm).1 = e1 at *
  generalize (N.may L x nm).2 = e2 at *
  go_enter Try.func10, Try.ntmps10
  go_wp2_with (first | (go_at_call 16; refine (state_any (Hl.out _ hr.tur).1 _).mono ?_; rintro e w1 ⟨rfl, t1⟩; have h1' := H1.out; have hr' := hr.step t1; clear hr t1; have hr := hr'; clear hr'; have hc := hr.cell) | (go_at_call 23; refine (valueName nm _ Hnm.out).mono ?_; rintro e w1 ⟨rfl, rfl⟩; rw [H2.out]) | (go_at_call 24; refine (goodCols_any (Hl.out _ hr.tur).2.1).mono ?_; rintro e w1 ⟨rfl, t1⟩; rw [H3.out]; have hr' := hr.step t1; clear hr t1; have hr := hr'; clear hr'; have hc := hr.cell) | (go_at_call 21; refine (may_any (Hl.out _ hr.tur).1 (Hl.out _ hr.tur).2.2 x nm H64.out H5.out).mono ?_; rintro e w1 ⟨rfl, t1⟩; rw [HM.out]; have hr' := hr.step t1; clear hr t1; have hr := hr'; clear hr'; have hc := hr.cell))
  go_ret
  exact ⟨rfl, hr.tur⟩

set_option maxRecDepth 100000 in
set_option maxHeartbeats 4000000 in
theorem put_many (hl : LogAt w lb L) (hn : NamesIn w nb B N) (hok : N.Ok M) (hM : M ≤ 100000) (x : Int) (t : Tab) {cv : Value} (hcv : ColsAt w cv t.cols blk) (hnm : t.name.size ≤ maxLen) (hyes : putOk L x t = true) (hm : (N.may L x t.name).1 = 0) (hat : N.at_ L x t.name = -1) (hmany : 6 ≤ N.others L x t.name) :
    Calls Try.prog 10 #[.pointer (some ⟨nb, 0, none⟩), .pointer (some ⟨lb, 0, none⟩), .int .i64 x, t.agg cv] w
      fun e w' => e = .returned (.int .i64 3) ∧ Tur None' w w' := by
  obtain ⟨nm, cols, rel⟩ := t
  have hl' : ∀ w2, Tur None' w w2 → LogAt w2 lb L ∧ ColsAt w2 cv cols blk ∧ NamesIn w2 nb B N := fun w2 t => ⟨hl.tur t (fun h => h), hcv.tur t (fun _ h => h), hn.tur0 t⟩
  have Hl := Lib.hid hl'
  have Hcv := Lib.hid hcv
  obtain ⟨⟨a, cap, off, rfl, _⟩, _, _⟩ := hcv
  have hr := Run.start w (Obj.cells #[.string nm, .slice a cols.length cap, .int .i64 rel] 32)
  have Hnm := Lib.hid hnm
  obtain ⟨h1, h2, h3, h41, h42⟩ := putOk_parts hyes
  simp only at h1 h2 h3 h41 h42
  have H1 := Lib.hid h1
  have H2 := Lib.hid h2
  have H3 := Lib.hid h3
  have h4 : ¬ rel < 1 := by omega
  have H64 := Lib.hid (show ∀ v ∈ N.f nm, Is64 v.xmin ∧ Is64 v.xmax from fun v hv => ⟨(hok.ver nm v hv).1, (hok.ver nm v hv).2.1⟩)
  have H5 := Lib.hid (show (N.f nm).length ≤ 100000 from by have := hok.len nm; omega)
  have H6 := Lib.hid (show N.keys.length ≤ 100000 from by have := hok.keys; omega)
  have Hok := Lib.hid hok
  simp only at hm hat hmany
  have HM := Lib.hid (show N.may L x nm = (0, (N.may L x nm).2) from by rw [← hm])
  have HA := Lib.hid hat
  clear h1 h2 h3 hl' hl hnm hok hyes hn hm hat Hcv
  generalize (N.may L x nm).2 = e2 at *
  go_enter Try.func10, Try.ntmps10
  go_wp2_with (first | (go_at_call 16; refine (state_any (Hl.out _ hr.tur).1 _).mono ?_; rintro e w1 ⟨rfl, t1⟩; have h1' := H1.out; have hr' := hr.step t1; clear hr t1; have hr := hr'; clear hr'; have hc := hr.cell) | (go_at_call 23; refine (valueName nm _ Hnm.out).mono ?_; rintro e w1 ⟨rfl, rfl⟩; rw [H2.out]) | (go_at_call 24; refine (goodCols_any (Hl.out _ hr.tur).2.1).mono ?_; rintro e w1 ⟨rfl, t1⟩; rw [H3.out]; have hr' := hr.step t1; clear hr t1; have hr := hr'; clear hr'; have hc := hr.cell) | (go_at_call 21; refine (may_any (Hl.out _ hr.tur).1 (Hl.out _ hr.tur).2.2 x nm H64.out H5.out).mono ?_; rintro e w1 ⟨rfl, t1⟩; rw [HM.out]; have hr' := hr.step t1; clear hr t1; have hr := hr'; clear hr'; have hc := hr.cell) | (go_at_call 25; refine (at_any (Hl.out _ hr.tur).1 (Hl.out _ hr.tur).2.2 x nm).mono ?_; rintro e w1 ⟨rfl, t1⟩; rw [HA.out]; have hr' := hr.step t1; clear hr t1; have hr := hr'; clear hr'; have hc := hr.cell) | (go_at_call 26; refine (others_any (Hl.out _ hr.tur).1 (Hl.out _ hr.tur).2.2 x nm H6.out).mono ?_; rintro e w1 ⟨rfl, t1⟩; have hr' := hr.step t1; clear hr t1; have hr := hr'; clear hr'; have hc := hr.cell))
  go_ret
  exact ⟨rfl, hr.tur⟩

end

end Go.Proofs.Ytapkmgmcccgejaa

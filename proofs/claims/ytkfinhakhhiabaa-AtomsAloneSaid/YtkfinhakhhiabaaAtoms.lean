/- Layer 3: what each function of package atoms answers and does to memory, told over plain tables and operations. -/
import Derived.Test.YtkfinhakhhiabaaCells
import Derived.Test.YtkfinhakhhiabaaLongs
import Derived.Test.YtkfinhakhhiabaaPlan2
import Derived.Test.YtkfinhakhhiabaaRes
import Derived.Deep.LoopGhost
set_option maxRecDepth 20000
set_option linter.unusedVariables false
set_option linter.unusedSimpArgs false
namespace Go.Proofs.Ytkfinhakhhiabaa
open Go.RowKit Go.PM

/-- A plain table: its block, how many lists, how many names may be, the names by block. -/
structure TV where
  block : Int
  buckets : Int
  most : Int
  names : Int → Option ByteArray
def TV.nm (T : TV) (b : Int) : ByteArray := (T.names b).getD ByteArray.empty
def TV.put (T : TV) (b : Int) (s : ByteArray) : TV := { T with names := fun k => if k = b then some s else T.names k }
def TV.del (T : TV) (b : Int) : TV := { T with names := fun k => if k = b then none else T.names k }
/-- A plain operation. -/
structure OV where
  name : ByteArray
  cell : Int
  next : Int
  first : Int
  at_ : Int
  reserved : Bool
  node : Int
  id : Int
  err : Int
def OV.fin (O : OV) (id e : Int) : OV := { O with id := id, err := e, next := if 0 < O.node then 7 else if O.reserved then 8 else 9 }
/-- The map's entries: block, name, when it was born. -/
abbrev Names := List (Int × ByteArray × Nat)
def rawN (L : Names) : Ents := L.map fun e => (e.1, .string e.2.1, e.2.2)
structure NamesOk (L : Names) (f : Int → Option ByteArray) : Prop where
  keys : L.Pairwise fun p q => p.1 ≠ q.1
  get : ∀ k, (L.find? (fun e => e.1 == k)).map (·.2.1) = f k
structure TableIn (w : World) (own : Nat → Nat) (k t a : Nat) (T : TV) (mb clock : Nat) (L : Names) : Prop where
  root : Blk w own k t (.cells #[.pointer (some ⟨a, 0, none⟩), .int .i64 T.block, .int .i64 T.buckets, .int .i64 T.most, .map (some mb)] 50 (0, 0))
  map : Blk w own k mb (.map (mobj (rawN L)) clock)
  ok : NamesOk L T.names
/-- At t, in blocks of colour k, lies a table that is T, over the arena at a. -/
def Table (w : World) (own : Nat → Nat) (k t a : Nat) (T : TV) : Prop := ∃ mb clock L, TableIn w own k t a T mb clock L
/-- At o, of colour k, lies an operation that is O, of the table at t. -/
def OpAt (w : World) (own : Nat → Nat) (k o t : Nat) (O : OV) : Prop :=
  Blk w own k o (.cells #[.pointer (some ⟨t, 0, none⟩), .string O.name, .int .i64 O.cell, .int .i64 O.next, .int .i64 O.first, .int .i64 O.at_, .bool O.reserved, .int .i64 O.node, .int .i64 O.id, .int .i64 O.err] 54 (0, 0))
theorem TableIn.ext {M : Nat → Prop} {w w' : World} {own own' : Nat → Nat} {k t a : Nat} {T : TV} {mb clock : Nat} {L : Names} (h : TableIn w own k t a T mb clock L) (e : Ext M w w' own own') (hk : ¬ M k) : TableIn w' own' k t a T mb clock L :=
  ⟨h.root.ext e hk, h.map.ext e hk, h.ok⟩
theorem Table.ext {M : Nat → Prop} {w w' : World} {own own' : Nat → Nat} {k t a : Nat} {T : TV} (h : Table w own k t a T) (e : Ext M w w' own own') (hk : ¬ M k) : Table w' own' k t a T := by
  obtain ⟨mb, c, L, h⟩ := h
  exact ⟨mb, c, L, h.ext e hk⟩
theorem OpAt.ext {M : Nat → Prop} {w w' : World} {own own' : Nat → Nat} {k o t : Nat} {O : OV} (h : OpAt w own k o t O) (e : Ext M w w' own own') (hk : ¬ M k) : OpAt w' own' k o t O := Blk.ext h e hk
theorem ten_y {w : World} {own : Nat → Nat} {k b : Nat} {T : TypeId} {x0 x1 x2 x3 x4 x5 x6 x7 x8 x9 : Value} (h : Blk w own k b (.cells #[x0, x1, x2, x3, x4, x5, x6, x7, x8, x9] T (0, 0))) :
    w.cell? ⟨b, 0, none⟩ = some x0 ∧ w.cell? ⟨b, 1, none⟩ = some x1 ∧ w.cell? ⟨b, 2, none⟩ = some x2 ∧ w.cell? ⟨b, 3, none⟩ = some x3 ∧ w.cell? ⟨b, 4, none⟩ = some x4 ∧ w.cell? ⟨b, 5, none⟩ = some x5 ∧ w.cell? ⟨b, 6, none⟩ = some x6 ∧ w.cell? ⟨b, 7, none⟩ = some x7 ∧ w.cell? ⟨b, 8, none⟩ = some x8 ∧ w.cell? ⟨b, 9, none⟩ = some x9 :=
  ⟨h.cell 0, h.cell 1, h.cell 2, h.cell 3, h.cell 4, h.cell 5, h.cell 6, h.cell 7, h.cell 8, h.cell 9⟩
theorem ten_f {w : World} {own : Nat → Nat} {k b : Nat} {T : TypeId} {x0 x1 x2 x3 x4 x5 x6 x7 x8 x9 : Value} (h : Blk w own k b (.cells #[x0, x1, x2, x3, x4, x5, x6, x7, x8, x9] T (0, 0))) :
    w.frozen? ⟨b, 3, none⟩ = false ∧ w.frozen? ⟨b, 4, none⟩ = false ∧ w.frozen? ⟨b, 5, none⟩ = false ∧ w.frozen? ⟨b, 6, none⟩ = false ∧ w.frozen? ⟨b, 7, none⟩ = false ∧ w.frozen? ⟨b, 8, none⟩ = false ∧ w.frozen? ⟨b, 9, none⟩ = false :=
  ⟨h.free 3, h.free 4, h.free 5, h.free 6, h.free 7, h.free 8, h.free 9⟩
theorem five_t {w : World} {own : Nat → Nat} {k b : Nat} {T : TypeId} {x0 x1 x2 x3 x4 : Value} (h : Blk w own k b (.cells #[x0, x1, x2, x3, x4] T (0, 0))) :
    w.cell? ⟨b, 0, none⟩ = some x0 ∧ w.cell? ⟨b, 1, none⟩ = some x1 ∧ w.cell? ⟨b, 2, none⟩ = some x2 ∧ w.cell? ⟨b, 3, none⟩ = some x3 ∧ w.cell? ⟨b, 4, none⟩ = some x4 :=
  ⟨h.cell 0, h.cell 1, h.cell 2, h.cell 3, h.cell 4⟩
section
variable {w : World} {own : Nat → Nat} {ka kt ko a t o : Nat} {V : AV} {T : TV} {O : OV}
theorem OpAt.set_next (h : OpAt w own ko o t O) (x : Int) : OpAt (w.setCell ⟨o, 3, none⟩ (.int .i64 x)) own ko o t { O with next := x } ∧ Ext (fun c => c = ko) w (w.setCell ⟨o, 3, none⟩ (.int .i64 x)) own own :=
  ⟨by have := Blk.setCell h 3 (.int .i64 x); simpa [OpAt] using this, Ext.refl.setCell (fun _ => h.col) _⟩
theorem OpAt.set_first (h : OpAt w own ko o t O) (x : Int) : OpAt (w.setCell ⟨o, 4, none⟩ (.int .i64 x)) own ko o t { O with first := x } ∧ Ext (fun c => c = ko) w (w.setCell ⟨o, 4, none⟩ (.int .i64 x)) own own :=
  ⟨by have := Blk.setCell h 4 (.int .i64 x); simpa [OpAt] using this, Ext.refl.setCell (fun _ => h.col) _⟩
theorem OpAt.set_at (h : OpAt w own ko o t O) (x : Int) : OpAt (w.setCell ⟨o, 5, none⟩ (.int .i64 x)) own ko o t { O with at_ := x } ∧ Ext (fun c => c = ko) w (w.setCell ⟨o, 5, none⟩ (.int .i64 x)) own own :=
  ⟨by have := Blk.setCell h 5 (.int .i64 x); simpa [OpAt] using this, Ext.refl.setCell (fun _ => h.col) _⟩
theorem OpAt.set_res (h : OpAt w own ko o t O) (x : Bool) : OpAt (w.setCell ⟨o, 6, none⟩ (.bool x)) own ko o t { O with reserved := x } ∧ Ext (fun c => c = ko) w (w.setCell ⟨o, 6, none⟩ (.bool x)) own own :=
  ⟨by have := Blk.setCell h 6 (.bool x); simpa [OpAt] using this, Ext.refl.setCell (fun _ => h.col) _⟩
theorem OpAt.set_node (h : OpAt w own ko o t O) (x : Int) : OpAt (w.setCell ⟨o, 7, none⟩ (.int .i64 x)) own ko o t { O with node := x } ∧ Ext (fun c => c = ko) w (w.setCell ⟨o, 7, none⟩ (.int .i64 x)) own own :=
  ⟨by have := Blk.setCell h 7 (.int .i64 x); simpa [OpAt] using this, Ext.refl.setCell (fun _ => h.col) _⟩
theorem OpAt.set_id (h : OpAt w own ko o t O) (x : Int) : OpAt (w.setCell ⟨o, 8, none⟩ (.int .i64 x)) own ko o t { O with id := x } ∧ Ext (fun c => c = ko) w (w.setCell ⟨o, 8, none⟩ (.int .i64 x)) own own :=
  ⟨by have := Blk.setCell h 8 (.int .i64 x); simpa [OpAt] using this, Ext.refl.setCell (fun _ => h.col) _⟩
theorem OpAt.set_err (h : OpAt w own ko o t O) (x : Int) : OpAt (w.setCell ⟨o, 9, none⟩ (.int .i64 x)) own ko o t { O with err := x } ∧ Ext (fun c => c = ko) w (w.setCell ⟨o, 9, none⟩ (.int .i64 x)) own own :=
  ⟨by have := Blk.setCell h 9 (.int .i64 x); simpa [OpAt] using this, Ext.refl.setCell (fun _ => h.col) _⟩
/-! ### Over, Answer, end -/
theorem Over_any (hO : OpAt w own ko o t O) : Calls Try.prog 11 #[.pointer (some ⟨o, 0, none⟩)] w fun e w' => e = .returned (.bool (O.next == 9)) ∧ w' = w := by
  obtain ⟨c0, c1, c2, c3, c4, c5, c6, c7, c8, c9⟩ := ten_y hO
  clear hO
  go_enter Try.func11, Try.ntmps11
  go_wp2_with fail
  go_ret
  exact ⟨rfl, rfl⟩
def OV.answer (O : OV) : Value := if O.next = 9 then .tuple #[.int .i64 O.id, .int .i64 O.err] else .tuple #[.int .i64 0, .int .i64 0]
theorem Answer_any (hO : OpAt w own ko o t O) : Calls Try.prog 10 #[.pointer (some ⟨o, 0, none⟩)] w fun e w' => e = .returned O.answer ∧ ∃ n, w' = w.drewN n := by
  have HO := Lib.hid (Over_any hO)
  obtain ⟨c0, c1, c2, c3, c4, c5, c6, c7, c8, c9⟩ := ten_y hO
  clear hO
  by_cases h9 : O.next = 9
  · have HA := Lib.hid (show O.answer = .tuple #[.int .i64 O.id, .int .i64 O.err] from if_pos h9)
    have b1 : (O.next == 9) = true := by simp [h9]
    clear h9
    go_enter Try.func10, Try.ntmps10
    go_wp2_with fail
    refine HO.out.mono ?_
    rintro e w1 ⟨rfl, rfl⟩
    go_wp2_with fail
    go_quiet (fail)
    go_wp2_with fail
    go_ret2
    exact ⟨by rw [HA.out]; rfl, _, rfl⟩
  · have HA := Lib.hid (show O.answer = .tuple #[.int .i64 0, .int .i64 0] from if_neg h9)
    have b1 : (O.next == 9) = false := by simp [h9]
    clear h9
    go_enter Try.func10, Try.ntmps10
    go_wp2_with fail
    refine HO.out.mono ?_
    rintro e w1 ⟨rfl, rfl⟩
    go_wp2_with fail
    go_ret2
    exact ⟨by rw [HA.out]; rfl, 0, rfl⟩
/-- A call leaves the operation's block turned, and nothing else. -/
def OPost (w : World) (own : Nat → Nat) (ko o t : Nat) (O' : OV) (w' : World) : Prop := Ext (fun c => c = ko) w w' own own ∧ OpAt w' own ko o t O'
theorem OPost.then {w1 w2 : World} {O1 O2 : OV} (h1 : OPost w own ko o t O1 w1) (h2 : OpAt w1 own ko o t O1 → OPost w1 own ko o t O2 w2) : OPost w own ko o t O2 w2 := by
  obtain ⟨h3, h4⟩ := h2 h1.2
  exact ⟨h1.1.trans h3, h4⟩
theorem end_post (hO : OpAt w own ko o t O) (id er n : Int) (hn : n = (if 0 < O.node then 7 else if O.reserved then 8 else 9)) :
    OPost w own ko o t (O.fin id er) (((w.setCell ⟨o, 8, none⟩ (.int .i64 id)).setCell ⟨o, 9, none⟩ (.int .i64 er)).setCell ⟨o, 3, none⟩ (.int .i64 n)) := by
  subst hn
  obtain ⟨h1, e1⟩ := hO.set_id id
  obtain ⟨h2, e2⟩ := h1.set_err er
  obtain ⟨h3, e3⟩ := h2.set_next (if 0 < O.node then 7 else if O.reserved then 8 else 9)
  exact ⟨(e1.trans e2).trans e3, h3⟩
theorem end_any (hO : OpAt w own ko o t O) (id er : Int) : Calls Try.prog 19 #[.pointer (some ⟨o, 0, none⟩), .int .i64 id, .int .i64 er] w fun e w' => (∃ r, e = .returned r) ∧ OPost w own ko o t (O.fin id er) w' := by
  have hp := end_post hO id er _ rfl
  obtain ⟨c0, c1, c2, c3, c4, c5, c6, c7, c8, c9⟩ := ten_y hO
  obtain ⟨f3, f4, f5, f6, f7, f8, f9⟩ := ten_f hO
  clear hO
  by_cases hn : 0 < O.node
  · rw [if_pos hn] at hp
    have HP := Lib.hid hp
    clear hp
    go_enter Try.func19, Try.ntmps19
    go_wp2_with fail
    go_end0
    exact ⟨⟨_, rfl⟩, HP.out⟩
  · cases hr : O.reserved with
    | true =>
      rw [if_neg hn, hr, if_pos rfl] at hp
      rw [hr] at c6
      have HP := Lib.hid hp
      clear hp hr
      go_enter Try.func19, Try.ntmps19
      go_wp2_with fail
      go_end0
      exact ⟨⟨_, rfl⟩, HP.out⟩
    | false =>
      rw [if_neg hn, hr, if_neg (by decide)] at hp
      rw [hr] at c6
      have HP := Lib.hid hp
      clear hp hr
      go_enter Try.func19, Try.ntmps19
      go_wp2_with fail
      go_end0
      exact ⟨⟨_, rfl⟩, HP.out⟩
/-! ### the names -/
theorem mget_rawN (L : Names) (b : Int) : mget (rawN L) b = ((L.find? (fun e => e.1 == b)).map (·.2.1)).map Value.string := by
  unfold mget rawN
  rw [List.find?_map]
  simp only [Option.map_map]
  rfl
theorem zeroStr (w : World) : (zeroValue 9).run Try.prog w = .ok (.string ByteArray.empty) w := by kernel_rfl
theorem TableIn.look {mb clock : Nat} {L : Names} (h : TableIn w own kt t a T mb clock L) (b : Int) : (Instr.lookup 48 (.map (some mb)) (.int .i64 b) false).run Try.prog w = .ok (.string (T.nm b)) w := by
  have h1 := run_look (P := Try.prog) Try.underlying48 Try.underlying3 zeroStr h.map.at_ b
  rw [h1, mget_rawN, h.ok.get b]
  unfold TV.nm
  cases T.names b <;> rfl
theorem TableIn.lookN {mb clock : Nat} {L : Names} (h : TableIn w own kt t a T mb clock L) (b : Int) (n : Nat) : (Instr.lookup 48 (.map (some mb)) (.int .i64 b) false).run Try.prog (w.drewN n) = .ok (.string (T.nm b)) (w.drewN n) := by
  have h1 := run_look (P := Try.prog) Try.underlying48 Try.underlying3 zeroStr (w := w.drewN n) h.map.at_ b
  rw [h1, mget_rawN, h.ok.get b]
  unfold TV.nm
  cases T.names b <;> rfl
/-! ### look -/
def lookO (V : AV) (T : TV) (O : OV) : OV :=
  if O.at_ = 0 then (if 0 < O.node then { O with next := 5 } else { O with next := 3 }) else if (T.nm O.at_).toList = O.name.toList then O.fin O.at_ 0 else { O with at_ := V.val O.at_ 0 }
def lookV (V : AV) (T : TV) (O : OV) : AV := if O.at_ = 0 then V else if (T.nm O.at_).toList = O.name.toList then V else V.touch O.at_
def LPost (ka ko a o t : Nat) (V' : AV) (O' : OV) (w : World) (own : Nat → Nat) (e : Ending) (w' : World) : Prop :=
  ∃ r own', e = .returned r ∧ Ext (fun c => c = ka ∨ c = ko) w w' own own' ∧ Arena w' own' ka a V' ∧ OpAt w' own' ko o t O'
theorem LPost.of {V' : AV} {O' O2 : OV} {r : Value} {w' : World} (hA : Arena w own ka a V) (hka : ka ≠ ko) (h : OPost w own ko o t O' w') (e1 : V = V') (e2 : O' = O2) : LPost ka ko a o t V' O2 w own (.returned r) w' := by
  subst e1
  subst e2
  exact ⟨r, own, rfl, h.1.mono (by simp), hA.ext h.1 hka, h.2⟩
set_option maxHeartbeats 2000000 in
theorem look_any (hA : Arena w own ka a V) (hT : Table w own kt t a T) (hO : OpAt w own ko o t O) (hka : ka ≠ ko) (hkt : kt ≠ ka) (hf : V.faults < 1000000000000000) :
    Calls Try.prog 21 #[.pointer (some ⟨o, 0, none⟩)] w (LPost ka ko a o t (lookV V T O) (lookO V T O) w own) := by
  obtain ⟨mb, clock, L, hT⟩ := hT
  obtain ⟨c0, c1, c2, c3, c4, c5, c6, c7, c8, c9⟩ := ten_y hO
  obtain ⟨f3, f4, f5, f6, f7, f8, f9⟩ := ten_f hO
  obtain ⟨t0, t1, t2, t3, t4⟩ := five_t hT.root
  by_cases h0 : O.at_ = 0
  · by_cases hn : 0 < O.node
    · have HP := Lib.hid (LPost.of (r := .tuple #[]) hA hka (show OPost w own ko o t { O with next := 5 } _ from ⟨(hO.set_next 5).2, (hO.set_next 5).1⟩) (show V = lookV V T O by unfold lookV; rw [if_pos h0]) (show _ = lookO V T O by unfold lookO; rw [if_pos h0, if_pos hn]))
      have b0 : (O.at_ == 0) = true := by simp [h0]
      clear hA hT hO h0
      go_enter Try.func21, Try.ntmps21
      go_wp2_with fail
      go_end0
      exact HP.out
    · have HP := Lib.hid (LPost.of (r := .tuple #[]) hA hka (show OPost w own ko o t { O with next := 3 } _ from ⟨(hO.set_next 3).2, (hO.set_next 3).1⟩) (show V = lookV V T O by unfold lookV; rw [if_pos h0]) (show _ = lookO V T O by unfold lookO; rw [if_pos h0, if_neg hn]))
      have b0 : (O.at_ == 0) = true := by simp [h0]
      clear hA hT hO h0
      go_enter Try.func21, Try.ntmps21
      go_wp2_with fail
      go_end0
      exact HP.out
  · have b0 : (O.at_ == 0) = false := by simp [h0]
    have hl := fun n => hT.lookN O.at_ n
    have hl0 := hT.look O.at_
    by_cases hs : (T.nm O.at_).toList = O.name.toList
    · have HV := Lib.hid (show V = lookV V T O by unfold lookV; rw [if_neg h0, if_pos hs])
      have HOO := Lib.hid (show O.fin O.at_ 0 = lookO V T O by unfold lookO; rw [if_neg h0, if_pos hs])
      have hX : ∀ n, Ext (fun _ => False) w (w.drewN n) own own := fun n => Ext.refl.drewN n
      have HE := Lib.hid (fun n => end_any (hO.ext (hX n) (by simp)) O.at_ 0)
      have HA := Lib.hid (fun n => hA.ext (hX n) (by simp))
      have b1 : ((T.nm O.at_).toList == O.name.toList) = true := by simp [hs]
      clear hA hT hO h0 hs
      go_enter Try.func21, Try.ntmps21
      go_wp2_with fail
      go_quiet (fail)
      go_wp2_with fail
      refine (HE.out _).mono ?_
      rintro e w2 ⟨⟨r, rfl⟩, hp⟩
      have HP := Lib.hid (show LPost ka ko a o t (lookV V T O) (lookO V T O) w own (.returned (.tuple #[])) w2 from ⟨_, own, rfl, (Ext.refl.drewN _).trans (hp.1.mono (by simp)), by rw [← HV.out]; exact (HA.out _).ext hp.1 hka, by rw [← HOO.out]; exact hp.2⟩)
      clear hp
      go_wp2_with fail
      go_end0
      exact HP.out
    · have HV := Lib.hid (show V.touch O.at_ = lookV V T O by unfold lookV; rw [if_neg h0, if_neg hs])
      have HOO := Lib.hid (show { O with at_ := V.val O.at_ 0 } = lookO V T O by unfold lookO; rw [if_neg h0, if_neg hs])
      have hX : ∀ n, Ext (fun _ => False) w (w.drewN n) own own := fun n => Ext.refl.drewN n
      have HA := Lib.hid (fun n => hA.ext (hX n) (by simp))
      have HO := Lib.hid (fun n => hO.ext (hX n) (by simp))
      have HT := Lib.hid (fun n => hT.ext (hX n) (by simp))
      have b1 : ((T.nm O.at_).toList == O.name.toList) = false := by simp [hs]
      clear hA hT hO h0 hs
      go_enter Try.func21, Try.ntmps21
      go_wp2_with fail
      go_quiet (fail)
      have hAq := HA.out nq
      have hOq := HO.out nq
      have hTq := HT.out nq
      have hEq := hX nq
      clear c0 c1 c2 c3 c4 c5 c6 c7 c8 c9 f3 f4 f5 f6 f7 f8 f9 t0 t1 t2 t3 t4 hl hl0 HA HO HT hX
      generalize w.drewN nq = wq at *
      obtain ⟨c0, c1, c2, c3, c4, c5, c6, c7, c8, c9⟩ := ten_y hOq
      obtain ⟨t0, t1, t2, t3, t4⟩ := five_t hTq.root
      have hY : Ext (fun _ => False) wq wq.drew own own := Ext.refl.drew
      have HL := Lib.hid (Load_any (hAq.ext hY (by simp)) hf O.at_ 0)
      have HEq := Lib.hid hEq
      have HOq := Lib.hid hOq
      clear hAq hOq hTq hEq hY
      go_wp2_with fail
      refine wp_region_plan2 [(true, 0, [16, 17, 18]), (true, 1, [2, 3, 4, 5, 6, 7, 12, 13, 14, 15, 16, 17, 18]), (true, 2, [3, 4, 5, 6, 7, 12, 13, 14, 15, 16, 17, 18]), (true, 3, [4, 5, 6, 7, 12, 13, 14, 15, 16, 17, 18]), (true, 4, [5, 6, 7, 12, 13, 14, 15, 16, 17, 18]), (true, 5, [6, 7, 12, 13, 14, 15, 16, 17, 18]), (true, 6, [7, 12, 13, 14, 15, 16, 17, 18]), (true, 7, [12, 13, 14, 15, 16, 17, 18]), (true, 8, [9, 10, 11, 12, 13, 14, 15, 16, 17, 18]), (true, 9, [10, 11, 12, 13, 14, 15, 16, 17, 18]), (true, 10, [11, 12, 13, 14, 15, 16, 17, 18]), (true, 11, [12, 13, 14, 15, 16, 17, 18]), (false, 12, []), (true, 13, [14, 15, 16, 17, 18]), (true, 14, [16, 17, 18]), (true, 15, []), (true, 16, [17, 18]), (true, 17, [18]), (false, 18, [])] (by kernel_rfl) (by kernel_rfl) (fun _ _ _ d _ h => by cases d <;> exact h) ?_
      iterate 12 (refine plan_early rfl ?_; still_step; refine wpStill_nil ?_)
      refine plan_big rfl ?_
      go_wp2_with fail
      refine HL.out.mono ?_
      rintro e w2 ⟨rfl, own2, hE2, hA2⟩
      have hO2 := HOq.out.ext (M := fun c => c = ka) ((Ext.refl).drew.trans hE2) (fun h => hka h.symm)
      obtain ⟨g0, g1, g2, g3, g4, g5, g6, g7, g8, g9⟩ := ten_y hO2
      obtain ⟨f3, f4, f5, f6, f7, f8, f9⟩ := ten_f hO2
      have HP := Lib.hid (show LPost ka ko a o t (lookV V T O) (lookO V T O) w own (.returned (.tuple #[])) (w2.setCell ⟨o, 5, none⟩ (.int .i64 (V.val O.at_ 0))) from
        ⟨_, own2, rfl, (((HEq.out.mono (by simp)).trans (Ext.refl.drew)).trans (hE2.mono (by simp))).trans ((hO2.set_at (V.val O.at_ 0)).2.mono (by simp)), by rw [← HV.out]; exact hA2.ext (hO2.set_at (V.val O.at_ 0)).2 hka, by rw [← HOO.out]; exact (hO2.set_at (V.val O.at_ 0)).1⟩)
      clear hE2 hA2 hO2
      go_wp2_with fail
      iterate 5 (refine plan_early rfl ?_; still_step; refine wpStill_nil ?_)
      refine plan_big rfl ?_
      go_wp2_with fail
      refine plan_nil ?_
      go_wp2_with fail
      go_end0
      exact HP.out
/-! ### names put in and taken away -/
theorem eraseP_find_ne {α : Type} (l : List (Int × α)) (b c : Int) (h : c ≠ b) : (l.eraseP (fun p => p.1 == b)).find? (fun p => p.1 == c) = l.find? (fun p => p.1 == c) := by
  induction l with
  | nil => rfl
  | cons x l ih =>
    by_cases hx : (x.1 == b) = true
    · have h2 : (x.1 == c) = false := by
        have : x.1 = b := by simpa using hx
        simp [this, Ne.symm h]
      rw [List.eraseP_cons_of_pos (by exact hx), List.find?_cons, h2]
    · rw [List.eraseP_cons_of_neg (by exact hx), List.find?_cons, List.find?_cons, ih]
theorem eraseP_find_eq {α : Type} (b : Int) (l : List (Int × α)) : (l.Pairwise fun p q => p.1 ≠ q.1) → (l.eraseP (fun p => p.1 == b)).find? (fun p => p.1 == b) = none := by
  induction l with
  | nil => intro _; rfl
  | cons x l ih =>
    intro h
    rw [List.pairwise_cons] at h
    by_cases hx : (x.1 == b) = true
    · rw [List.eraseP_cons_of_pos (by exact hx), List.find?_eq_none]
      intro y hy
      have h1 : x.1 = b := by simpa using hx
      have := h.1 y hy
      rw [h1] at this
      simp [Ne.symm this]
    · rw [List.eraseP_cons_of_neg (by exact hx), List.find?_cons]
      have h1 : (x.1 == b) = false := by simpa using hx
      rw [h1]
      exact ih h.2
theorem mdel_rawN (L : Names) (b : Int) : mdel (rawN L) b = rawN (L.eraseP (fun e => e.1 == b)) := by
  unfold mdel rawN
  rw [List.eraseP_map]
  rfl
theorem NamesOk.del {L : Names} {f : Int → Option ByteArray} (h : NamesOk L f) (b : Int) : NamesOk (L.eraseP (fun e => e.1 == b)) (fun k => if k = b then none else f k) := by
  refine ⟨h.keys.sublist (List.eraseP_sublist (l := L)), fun k => ?_⟩
  by_cases hk : k = b
  · subst hk
    rw [if_pos rfl, eraseP_find_eq k L h.keys]
    rfl
  · rw [if_neg hk, eraseP_find_ne L b k hk]
    exact h.get k
def nput (L : Names) (b : Int) (s : ByteArray) (c : Nat) : Names :=
  match L with
  | [] => [(b, s, c)]
  | e :: L => if e.1 == b then (b, s, e.2.2) :: L else e :: nput L b s c
theorem mput_rawN (L : Names) (b : Int) (s : ByteArray) (c : Nat) : mput (rawN L) b (.string s) c = rawN (nput L b s c) := by
  induction L with
  | nil => rfl
  | cons e L ih =>
    show (if e.1 == b then _ else _) = _
    unfold nput
    split
    · rfl
    · show _ :: mput (rawN L) b (.string s) c = _
      rw [ih]
      rfl
theorem nput_key {L : Names} {b : Int} {s : ByteArray} {c : Nat} : ∀ x ∈ nput L b s c, x.1 = b ∨ x ∈ L := by
  induction L with
  | nil => intro x hx; left; simp [nput] at hx; rw [hx]
  | cons e L ih =>
    intro x hx
    unfold nput at hx
    split at hx
    · rcases List.mem_cons.1 hx with rfl | hx
      · exact .inl rfl
      · exact .inr (List.mem_cons_of_mem _ hx)
    · rcases List.mem_cons.1 hx with rfl | hx
      · exact .inr (by simp)
      · rcases ih x hx with h | h
        · exact .inl h
        · exact .inr (List.mem_cons_of_mem _ h)
theorem NamesOk.put {L : Names} {f : Int → Option ByteArray} (h : NamesOk L f) (b : Int) (s : ByteArray) (c : Nat) : NamesOk (nput L b s c) (fun k => if k = b then some s else f k) := by
  constructor
  · have hk := h.keys
    clear h
    induction L with
    | nil => simp [nput]
    | cons e L ih =>
      rw [List.pairwise_cons] at hk
      unfold nput
      split
      · rename_i he
        have he : e.1 = b := by simpa using he
        rw [List.pairwise_cons]
        exact ⟨fun x hx => by rw [← he]; exact hk.1 x hx, hk.2⟩
      · rename_i he
        have he : e.1 ≠ b := by simpa using he
        rw [List.pairwise_cons]
        exact ⟨fun x hx => by
          rcases nput_key x hx with h | h
          · rw [h]; exact he
          · exact hk.1 x h, ih hk.2⟩
  · intro k
    have key : ∀ L : Names, ((nput L b s c).find? (fun e => e.1 == k)).map (·.2.1) = if k = b then some s else (L.find? (fun e => e.1 == k)).map (·.2.1) := by
      intro L
      induction L with
      | nil =>
        by_cases hk : k = b
        · simp [nput, hk]
        · simp [nput, hk, Ne.symm hk]
      | cons e L ih =>
        unfold nput
        split
        · rename_i he
          have he : e.1 = b := by simpa using he
          by_cases hk : k = b
          · simp [hk]
          · have h1 : (b == k) = false := by simp [Ne.symm hk]
            have h2 : (e.1 == k) = false := by rw [he]; exact h1
            rw [if_neg hk, List.find?_cons, List.find?_cons]
            simp only [h1, h2]
        · rename_i he
          have he : e.1 ≠ b := by simpa using he
          rw [List.find?_cons, List.find?_cons]
          by_cases hk : (e.1 == k) = true
          · have hkb : k ≠ b := by
              have : e.1 = k := by simpa using hk
              rw [← this]; exact he
            rw [hk, if_neg hkb]
          · have hk : (e.1 == k) = false := by simpa using hk
            rw [hk]
            exact ih
    have := key L
    rw [h.get k] at this
    exact this
theorem TableIn.del {mb clock : Nat} {L : Names} (h : TableIn w own kt t a T mb clock L) (b : Int) :
    Table (PM.setObj w mb (.map (mobj (mdel (rawN L) b)) clock)) own kt t a (T.del b) ∧ Ext (fun c => c = kt) w (PM.setObj w mb (.map (mobj (mdel (rawN L) b)) clock)) own own ∧
      ∀ ty, (Builtin.delete_ #[48, 3] ty #[.map (some mb), .int .i64 b]).run Try.prog w = .ok (.tuple #[]) (PM.setObj w mb (.map (mobj (mdel (rawN L) b)) clock)) := by
  refine ⟨⟨mb, clock, L.eraseP (fun e => e.1 == b), h.root.setObj_other (h.root.ne_obj h.map (by intro h; cases h)) _, ?_, h.ok.del b⟩, Ext.refl.setObj (fun _ => h.map.col) _, fun ty => run_del Try.underlying48 Try.underlying3 ty 3 h.map.at_ b⟩
  have := h.map.setObj (.map (mobj (mdel (rawN L) b)) clock)
  rwa [mdel_rawN] at this ⊢
theorem TableIn.put {mb clock : Nat} {L : Names} (h : TableIn w own kt t a T mb clock L) (b : Int) (s : ByteArray) :
    ∃ c', Table (PM.setObj w mb (.map (mobj (mput (rawN L) b (.string s) clock)) c')) own kt t a (T.put b s) ∧ Ext (fun c => c = kt) w (PM.setObj w mb (.map (mobj (mput (rawN L) b (.string s) clock)) c')) own own ∧
      (Instr.mapUpdate 48 (.map (some mb)) (.int .i64 b) (.string s)).run Try.prog w = .ok () (PM.setObj w mb (.map (mobj (mput (rawN L) b (.string s) clock)) c')) := by
  obtain ⟨c', hr⟩ := run_put (P := Try.prog) Try.underlying48 Try.underlying3 h.map.at_ b (.string s)
  refine ⟨c', ⟨mb, c', nput L b s clock, h.root.setObj_other (h.root.ne_obj h.map (by intro h; cases h)) _, ?_, h.ok.put b s clock⟩, Ext.refl.setObj (fun _ => h.map.col) _, hr⟩
  have := h.map.setObj (.map (mobj (mput (rawN L) b (.string s) clock)) c')
  rwa [mput_rawN] at this ⊢
end
end Go.Proofs.Ytkfinhakhhiabaa

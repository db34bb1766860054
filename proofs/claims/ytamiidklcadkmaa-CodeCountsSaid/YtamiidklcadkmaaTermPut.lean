/- term.put with variables for variables: a term as new memory, renamed. -/
import Derived.Test.YtamiidklcadkmaaTermBare
set_option maxRecDepth 20000
set_option linter.unusedVariables false
set_option linter.unusedSimpArgs false
namespace Go.Proofs.Ytamiidklcadkmaa
open Go.RowKit Go.PM
def mlk (m : List (Int × Int)) (x : Int) : Option Int := (m.find? (fun p => p.1 == x)).map (·.2)
mutual
/-- A term renamed; nothing stands in it that its kinds don't name. -/
def Tm.ren (m : List (Int × Int)) : Tm → Tm
  | .mk k s x ls => if k = 1 then .mk 1 noStr ((mlk m x).getD x) [] else if k = 4 then .mk 4 s 0 (Tms.ren m ls) else .mk k (bareS k s) (bareX k x) []
def Tms.ren (m : List (Int × Int)) : List Tm → List Tm
  | [] => []
  | t :: ts => Tm.ren m t :: Tms.ren m ts
end
theorem Tms.ren_map (m : List (Int × Int)) : ∀ ls, Tms.ren m ls = ls.map (Tm.ren m)
  | [] => rfl
  | t :: ts => by rw [Tms.ren, Tms.ren_map m ts]; rfl
def tvar (y : Int) : Value := .agg #[.int .i64 1, .string noStr, .int .i64 y, .slice none 0 0]
def zeroTm : Value := .agg #[.int .i64 0, .string noStr, .int .i64 0, .slice none 0 0]
theorem zeroTm_run (w : World) : (zeroValue 24).run Try.prog w = .ok zeroTm w := by kernel_rfl
/-- mv is a map that has just m: variables' numbers, and the variables for them. -/
def MapTm (w : World) (own : Nat → Nat) (K : Nat) (mv : Value) (m : List (Int × Int)) : Prop :=
  (mv = .map none ∧ m = []) ∨ ∃ r l c, mv = .map (some r) ∧ r < w.heap.size ∧ own r ≠ K ∧ w.heap[r]? = some (.map (mobj l) c) ∧ (∀ x, mget l x = (mlk m x).map tvar) ∧ (∀ x y, mlk m x = some y → rng64 y)
theorem MapTm.ext {w w' : World} {own own' : Nat → Nat} {K : Nat} {mv : Value} {m : List (Int × Int)} (h : MapTm w own K mv m) (e : Ext (fun c => c = K) w w' own own') : MapTm w' own' K mv m := by
  rcases h with h | ⟨r, l, c, h1, h2, h3, h4, h5⟩
  · exact .inl h
  · exact .inr ⟨r, l, c, h1, by have := e.size; omega, by rw [e.col r h2]; exact h3, by rw [e.same r h2 h3]; exact h4, h5⟩
theorem MapTm.shape {w : World} {own : Nat → Nat} {K : Nat} {mv : Value} {m : List (Int × Int)} (h : MapTm w own K mv m) : ∃ o, mv = .map o := by
  rcases h with ⟨rfl, _⟩ | ⟨r, l, c, rfl, _⟩ <;> exact ⟨_, rfl⟩
theorem MapTm.rng {w : World} {own : Nat → Nat} {K : Nat} {mv : Value} {m : List (Int × Int)} (h : MapTm w own K mv m) {x y : Int} (hx : mlk m x = some y) : rng64 y := by
  rcases h with ⟨_, rfl⟩ | ⟨r, l, c, _, _, _, _, _, h⟩
  · cases hx
  · exact h x y hx
theorem MapTm.run {w : World} {own : Nat → Nat} {K : Nat} {mv : Value} {m : List (Int × Int)} (h : MapTm w own K mv m) (x : Int) :
    (Instr.lookup 86 mv (.int .i64 x) true).run Try.prog w = .ok (.tuple #[((mlk m x).map tvar).getD zeroTm, .bool (mlk m x).isSome]) w := by
  rcases h with ⟨rfl, rfl⟩ | ⟨r, l, c, rfl, h1, h2, h3, h4, h5⟩
  · have hf := run_findKey_int (P := Try.prog) (w := w) (l := []) Try.underlying2 x
    simp only [mobj, List.map_nil, midx] at hf
    simp [Instr.lookup, run_underlying Try.underlying86, run_checkKey_int Try.underlying2, zeroTm_run, mlk, hf]
    rfl
  · have := run_look_ok (P := Try.prog) Try.underlying86 Try.underlying2 zeroTm_run h3 x
    rw [h4] at this
    rw [this]
    cases mlk m x <;> rfl
def PtPost (K L q : Nat) (w : World) (own : Nat → Nat) (t : Tm) (n : Int) (e : Ending) (w' : World) : Prop :=
  ∃ v', e = .returned (.tuple #[v', .bool true]) ∧ TmV w' (fun g => w.heap.size ≤ g) t v' ∧ Ext (fun c => c = K) w w' own (ow own w.heap.size L) ∧ Blk w' (ow own w.heap.size L) K q (.cells #[.int .i64 n] 3 (0, 0))
theorem Blk_same {w w' : World} {own : Nat → Nat} {k b : Nat} {o : Obj} (h : Blk w own k b o) (e : Below w.heap.size w w') : Blk w' own k b o := ⟨by rw [e.block b h.lt]; exact h.at_, h.col⟩
theorem Ext_same {M : Nat → Prop} {w w' : World} (own : Nat → Nat) (h : Below w.heap.size w w') : Ext M w w' own own := ⟨h.os, h.tape, h.output, h.size, fun _ _ => rfl, fun b hb _ => h.block b hb⟩
/-- The world ahead of put's first call, and what it leaves. -/
theorem pt_world {w : World} {own : Nat → Nat} {K q : Nat} {n : Int} (J : Nat) (HQ : Blk w own K q (.cells #[.int .i64 n] 3 (0, 0))) (o1 o2 o3 : Obj) {w4 : World}
    (hB : Below ((((w.setCell ⟨q, 0, none⟩ (.int .i64 (n + 1))).alloc o1).alloc o2).alloc o3).heap.size ((((w.setCell ⟨q, 0, none⟩ (.int .i64 (n + 1))).alloc o1).alloc o2).alloc o3) w4) :
    Blk w4 (ow own w.heap.size J) J w.heap.size o1 ∧ Blk w4 (ow own w.heap.size J) J (w.heap.size + 1) o2 ∧ Blk w4 (ow own w.heap.size J) K q (.cells #[.int .i64 (n + 1)] 3 (0, 0)) ∧ Ext (fun c => c = K) w w4 own (ow own w.heap.size J) ∧ w.heap.size + 3 ≤ w4.heap.size := by
  have s1 : (w.setCell ⟨q, 0, none⟩ (.int .i64 (n + 1))).heap.size = w.heap.size := World.size_setCell _ _ _
  have q1 : Blk (w.setCell ⟨q, 0, none⟩ (.int .i64 (n + 1))) (ow own w.heap.size J) K q (.cells #[.int .i64 (n + 1)] 3 (0, 0)) := by
    have := (HQ.setCell 0 (.int .i64 (n + 1))).recol (own' := ow own w.heap.size J) (by rw [ow_lt HQ.lt]; exact HQ.col)
    simpa using this
  have b1 : Blk ((w.setCell ⟨q, 0, none⟩ (.int .i64 (n + 1))).alloc o1) (ow own w.heap.size J) J (w.setCell ⟨q, 0, none⟩ (.int .i64 (n + 1))).heap.size o1 := Blk.new _ _ (ow_ge (by omega))
  have b2 : Blk (((w.setCell ⟨q, 0, none⟩ (.int .i64 (n + 1))).alloc o1).alloc o2) (ow own w.heap.size J) J ((w.setCell ⟨q, 0, none⟩ (.int .i64 (n + 1))).alloc o1).heap.size o2 := Blk.new _ _ (ow_ge (by rw [World.size_alloc]; omega))
  rw [s1] at b1
  rw [World.size_alloc, s1] at b2
  refine ⟨Blk_same ((b1.alloc o2).alloc o3) hB, Blk_same (b2.alloc o3) hB, Blk_same (((q1.alloc o1).alloc o2).alloc o3) hB, ?_, by have := hB.size; simp only [World.size_alloc, s1] at this; omega⟩
  exact ((((Ext.refl.ow J).setCell (fun _ => HQ.col) _).alloc _).alloc _).alloc _ |>.trans (Ext_same _ hB)
theorem bareS_le (k : Int) (s : ByteArray) (h : s.size ≤ 9223372036854775807) : (bareS k s).size ≤ 9223372036854775807 := by
  unfold bareS
  split
  · decide
  · exact h
theorem bareX_rng (k x : Int) (h : rng64 x) : rng64 (bareX k x) := by
  unfold bareX
  split
  · exact h
  · unfold rng64; decide
/-- put's end where a term is no compound one. -/
theorem pt_end {w w4 : World} {own own4 : Nat → Nat} {K L J q : Nat} {n : Int} {k : Int} {s : ByteArray} {x : Int} {b : Nat} {cs : List Value} (hE : Ext (fun c => c = K) w w4 own own4) (hqw : q < w.heap.size) (hqK : own q = K) (hq : Blk w4 own4 K q (.cells #[.int .i64 n] 3 (0, 0))) (hb : Blk w4 own4 J b (.cells cs.toArray 24 (0, 0))) (hJ : J ≠ K) (hbw : w.heap.size ≤ b) (hcs : cs.length = 4)
    (hk : rng64 k) (hs : s.size ≤ 9223372036854775807) (hx : rng64 x) (o : Obj) {e : Ending} (he : e = .returned (.tuple #[.agg #[.int .i64 k, .string s, .int .i64 x, .slice none 0 0], .bool true])) :
    PtPost K L q w own (.mk k s x []) n e ((putCells w4 b 0 [.int .i64 k, .string s, .int .i64 x, .slice none 0 0]).alloc o) := by
  have hqb : q ≠ b := hq.ne hb (Ne.symm hJ)
  have hE2 : Ext (fun c => c = K) w (putCells w4 b 0 [.int .i64 k, .string s, .int .i64 x, .slice none 0 0]) own own4 := Ext.putCells (fun h => by omega) _ _ _ hE
  have hq2 := (Blk.putCells_other hqb [.int .i64 k, .string s, .int .i64 x, .slice none 0 0] _ 0 hq).alloc o
  exact ⟨_, he, ⟨_, rfl, hk, hs, hx, by unfold Tm.At; exact .inl ⟨rfl, _, _, rfl⟩⟩, ⟨(hE2.alloc o).os, (hE2.alloc o).tape, (hE2.alloc o).output, (hE2.alloc o).size, fun b hb => ow_lt hb, (hE2.alloc o).same⟩, ⟨hq2.at_, by rw [ow_lt hqw]; exact hqK⟩⟩
theorem szs_cons (t : Tm) (ts : List Tm) : Tms.sz (t :: ts) = Tm.sz t + Tms.sz ts := by rw [Tms.sz]
theorem szs_append (a b : List Tm) : Tms.sz (a ++ b) = Tms.sz a + Tms.sz b := by
  induction a with
  | nil => rw [List.nil_append, Tms.sz, Int.zero_add]
  | cons t ts ih => rw [List.cons_append, szs_cons, szs_cons, ih]; omega
theorem szs_take (l : List Tm) (i : Nat) (h : i < l.length) : Tms.sz (l.take (i + 1)) = Tms.sz (l.take i) + Tm.sz l[i] ∧ Tms.sz (l.take (i + 1)) ≤ Tms.sz l := by
  have h1 := szs_append (l.take i) [l[i]]
  rw [← List.take_succ_eq_append_getElem h] at h1
  have h2 := szs_append (l.take (i + 1)) (l.drop (i + 1))
  rw [List.take_append_drop] at h2
  have h3 := szs_pos (l.drop (i + 1))
  have h4 : Tms.sz [l[i]] = Tm.sz l[i] := by rw [szs_cons, Tms.sz]; omega
  omega
theorem dps_mem (l : List Tm) : ∀ t ∈ l, Tm.dp t ≤ Tms.dp l := by
  induction l with
  | nil => intro t h; cases h
  | cons u us ih =>
    intro t h
    unfold Tms.dp
    rcases List.mem_cons.1 h with rfl | h
    · omega
    · have := ih t h; omega
theorem pls_mem (l : List Tm) : Tms.pl l → ∀ t ∈ l, Tm.pl t := by
  induction l with
  | nil => intro _ t h; cases h
  | cons u us ih =>
    intro hp t h
    unfold Tms.pl at hp
    rcases List.mem_cons.1 h with rfl | h
    · exact hp.1
    · exact ih hp.2 t h
theorem rens_len (m : List (Int × Int)) (ls : List Tm) : (Tms.ren m ls).length = ls.length := by rw [Tms.ren_map, List.length_map]
theorem rens_take (m : List (Int × Int)) (ls : List Tm) (i : Nat) (h : i < ls.length) : Tms.ren m (ls.take (i + 1)) = Tms.ren m (ls.take i) ++ [Tm.ren m ls[i]] := by
  rw [Tms.ren_map, Tms.ren_map, List.take_succ_eq_append_getElem h, List.map_append]; rfl
theorem TRow.shape {w : World} {own : Nat → Nat} {K : Nat} {C : Nat → Prop} {v : Value} {ts : List Tm} (h : TRow w own K C v ts) : ∃ a c, v = .slice a ts.length c := by
  obtain ⟨xs, h1, _⟩ := h
  exact h1.shape
def PtInv (w : World) (own0 : Nat → Nat) (K L B q o : Nat) (ls : List Tm) (m : List (Int × Int)) (n : Int) (s : ByteArray) (g : Nat) (iv : Value) (wr : World) : Prop :=
  ∃ (own : Nat → Nat) (i : Nat) (ov : Value), iv = .int .i64 i ∧ i + g = ls.length ∧ TRow wr own (B + 2) (fun g => own g = L ∧ w.heap.size ≤ g) ov (Tms.ren m (ls.take i)) ∧ Blk wr own (B + 1) o (.cells #[.int .i64 4, .string s, .int .i64 0, ov] 24 (0, 0)) ∧
    Blk wr own K q (.cells #[.int .i64 (n + 1 + Tms.sz (ls.take i))] 3 (0, 0)) ∧ Blk wr own B (w.heap.size + 1) (.cells #[.int .i64 0, .string noStr, .int .i64 0, .slice none 0 0] 24 (0, 0)) ∧ Ext (fun c => c = K) w wr own0 own ∧ (∀ g, own g < B + 3)
/-- What comes behind changes nothing of what was there first. -/
theorem Ext_mask {M M' : Nat → Prop} {w w1 w2 : World} {own own1 own2 : Nat → Nat} (h : Ext M w w1 own own1) (k : Ext M' w1 w2 own1 own2) (hm : ∀ b, b < w.heap.size → ¬ M' (own b)) : Ext M w w2 own own2 :=
  ⟨k.os.trans h.os, k.tape.trans h.tape, k.output.trans h.output, Nat.le_trans h.size k.size, fun b hb => (k.col b (Nat.lt_of_lt_of_le hb h.size)).trans (h.col b hb),
    fun b hb hn => (k.same b (Nat.lt_of_lt_of_le hb h.size) (by rw [h.col b hb]; exact hm b hb)).trans (h.same b hb hn)⟩
/-- At the end new blocks get one colour. -/
theorem Ext_end {M : Nat → Prop} {w w' : World} {own own' : Nat → Nat} (h : Ext M w w' own own') (L : Nat) : Ext M w w' own (ow own w.heap.size L) :=
  ⟨h.os, h.tape, h.output, h.size, fun b hb => ow_lt hb, h.same⟩
/-- put's end at a compound term. -/
theorem pt_end4 {w w4 : World} {own own4 : Nat → Nat} {K L B q : Nat} {n : Int} {s : ByteArray} {b : Nat} {cs : List Value} {ov : Value} {ts : List Tm} (hLB : L < B) (hKB : K < B) (hE : Ext (fun c => c = K) w w4 own own4) (hqw : q < w.heap.size) (hqK : own q = K) (hq : Blk w4 own4 K q (.cells #[.int .i64 n] 3 (0, 0))) (hb : Blk w4 own4 B b (.cells cs.toArray 24 (0, 0))) (hbw : w.heap.size ≤ b) (hcs : cs.length = 4)
    (hs : s.size ≤ 9223372036854775807) (hl : ts.length ≤ 9223372036854775807) (hr : TRow w4 own4 (B + 2) (fun g => own4 g = L ∧ w.heap.size ≤ g) ov ts) (hold : ∀ g, own g < B) {e : Ending} (he : e = .returned (.tuple #[.agg #[.int .i64 4, .string s, .int .i64 0, ov], .bool true])) :
    PtPost K L q w own (.mk 4 s 0 ts) n e (putCells w4 b 0 [.int .i64 4, .string s, .int .i64 0, ov]) := by
  have hqb : q ≠ b := hq.ne hb (by omega)
  have hE2 : Ext (fun c => c = K) w (putCells w4 b 0 [.int .i64 4, .string s, .int .i64 0, ov]) own own4 := Ext.putCells (fun h => by omega) _ _ _ hE
  have hE3 : Ext (fun c => c = B) w4 (putCells w4 b 0 [.int .i64 4, .string s, .int .i64 0, ov]) own4 own4 := Ext.putCells (M := fun c => c = B) (fun _ => hb.col) _ _ _ Ext.refl
  have hr2 : TRow (putCells w4 b 0 [.int .i64 4, .string s, .int .i64 0, ov]) own4 (B + 2) (fun g => own4 g = L ∧ w.heap.size ≤ g) ov ts := hr.ext hE3 (by omega) fun g hg hc => ⟨by omega, hc⟩
  have hq2 := Blk.putCells_other hqb [.int .i64 4, .string s, .int .i64 0, ov] w4 0 hq
  refine ⟨_, he, ⟨_, rfl, (by unfold rng64; show -9223372036854775808 ≤ (4 : Int) ∧ (4 : Int) ≤ 9223372036854775807; decide), hs, (by unfold rng64; show -9223372036854775808 ≤ (0 : Int) ∧ (0 : Int) ≤ 9223372036854775807; decide), hr2.at _ _ _ ?_ (fun g hg hc => hc.2) hl⟩, Ext_end hE2 L, ⟨hq2.at_, by rw [ow_lt hqw]; exact hqK⟩⟩
  intro g hg hc
  by_cases h : g < w.heap.size
  · have := hE2.col g h
    have := hold g
    omega
  · show w.heap.size ≤ g
    omega
set_option maxHeartbeats 4000000 in
theorem put_any : ∀ (t : Tm) (w : World) (own : Nat → Nat) (K L B q : Nat) (v mv : Value) (m : List (Int × Int)) (deep n : Int), TmV w (fun g => own g ≠ K) t v → MapTm w own K mv m → Blk w own K q (.cells #[.int .i64 n] 3 (0, 0)) → Tm.pl t → 0 ≤ n → n + Tm.sz t ≤ 2000 → 0 ≤ deep → deep + Tm.dp t ≤ 101 → L ≠ K → L < B → K < B → (∀ g, own g < B) →
    Calls Try.prog 43 #[v, mv, .int .i64 deep, .pointer (some ⟨q, 0, none⟩)] w (PtPost K L q w own (Tm.ren m t) (n + Tm.sz t)) := by
  refine Tm.ind fun k s x ls ih w own K L B q v mv m deep n hv hm hq hpl hn1 hn2 hd1 hd2 hLK hLB hKB hcol => ?_
  obtain ⟨a2, l2, c2, rfl, wk, ws, wx, hat⟩ := TmV_open hv
  have HAT := Lib.hid hat
  have IH := Lib.hid ih
  have HM := Lib.hid hm
  have HQ := Lib.hid hq
  have cq : w.cell? ⟨q, 0, none⟩ = some (.int .i64 n) := hq.cell 0
  have hql := hq.lt
  have fq := hq.free 0
  have hk1 : Tm.k (.mk k s x ls) = k := rfl
  have hs1 : Tm.s (.mk k s x ls) = s := rfl
  have hx1 : Tm.x (.mk k s x ls) = x := rfl
  rw [hk1, hs1, hx1]
  obtain ⟨mo, rfl⟩ := hm.shape
  have hp1 := sz_pos (.mk k s x ls)
  have hp2 := dp_pos (.mk k s x ls)
  have hn3 : n ≤ 1999 := by omega
  have hql1 : q < w.heap.size + 1 := by omega
  have hql2 : q < w.heap.size + 1 + 1 := by omega
  have hql3 : q < w.heap.size + 1 + 1 + 1 := by omega
  have hd3 : deep ≤ 100 := by omega
  have HSZ := Lib.hid (show Tm.sz (.mk k s x ls) = _ by unfold Tm.sz; rfl)
  have HDP := Lib.hid (show Tm.dp (.mk k s x ls) = _ by unfold Tm.dp; rfl)
  have HR := Lib.hid (show Tm.ren m (.mk k s x ls) = _ by unfold Tm.ren; rfl)
  obtain ⟨fk, fs, fx, fb, HLK, hft, hff⟩ : ∃ (fk : Int) (fs : ByteArray) (fx : Int) (fb : Bool), Hid (∀ o, (Instr.lookup 86 (.map mo) (.int .i64 x) true).run Try.prog ((w.alloc (.cells #[.int .i64 k, .string s, .int .i64 x, .slice a2 l2 c2] 24)).alloc o) = .ok (.tuple #[.agg #[.int .i64 fk, .string fs, .int .i64 fx, .slice none 0 0], .bool fb]) ((w.alloc (.cells #[.int .i64 k, .string s, .int .i64 x, .slice a2 l2 c2] 24)).alloc o)) ∧
      (fb = true → fk = 1 ∧ fs = noStr ∧ mlk m x = some fx ∧ rng64 fx) ∧ (fb = false → mlk m x = none) := by
    have h := fun o => (hm.ext ((Ext.refl.alloc (.cells #[.int .i64 k, .string s, .int .i64 x, .slice a2 l2 c2] 24)).alloc o)).run x
    cases hml : mlk m x with
    | none =>
      rw [hml] at h
      exact ⟨0, noStr, 0, false, Lib.hid h, fun h => (by cases h), fun _ => rfl⟩
    | some y =>
      rw [hml] at h
      exact ⟨1, noStr, y, true, Lib.hid h, fun _ => ⟨rfl, rfl, rfl, hm.rng hml⟩, fun h => (by cases h)⟩
  have hlk := HLK.out (.cells #[.int .i64 0, .string noStr, .int .i64 0, .slice none 0 0] 24)
  unfold noStr at hlk
  have HFT := Lib.hid hft
  have HCOL := Lib.hid hcol
  have HFF := Lib.hid hff
  have h0 : ¬ 2000 < n + 1 := by omega
  have h1 : ¬ 100 < deep := by omega
  clear hat ih hk1 hs1 hx1 hv hm hq HLK hft hff hcol
  by_cases k2 : k = 2
  · subst k2
    clear hpl HAT
    cases fb
    all_goals
      go_enter Try.func43, Try.ntmps43
      go_wp2_with fail
      refine (bare_any _ _ _ _ _ _ _ (by omega)).mono ?_
      rintro e w4 ⟨rfl, hB⟩
      obtain ⟨hb1, hb2, hq4, hE4, hs4⟩ := pt_world B HQ.out _ _ _ hB
      have c0 : w4.cell? ⟨w.heap.size, 0, none⟩ = some (.int .i64 2) := hb1.cell 0
      have f0 := hb2.free 0
      have f1 := hb2.free 1
      have f2 := hb2.free 2
      have f3 := hb2.free 3
      have l0 : w.heap.size < w4.heap.size := by omega
      have l1 : w.heap.size + 1 < w4.heap.size := by omega
      have d0 : w4.cell? ⟨w.heap.size + 1, 0, none⟩ = some (.int .i64 0) := hb2.cell 0
      have d1 : w4.cell? ⟨w.heap.size + 1, 1, none⟩ = some (.string noStr) := hb2.cell 1
      have d2 : w4.cell? ⟨w.heap.size + 1, 2, none⟩ = some (.int .i64 0) := hb2.cell 2
      have d3 : w4.cell? ⟨w.heap.size + 1, 3, none⟩ = some (.slice none 0 0) := hb2.cell 3
      have HB1 := Lib.hid hb1
      have HB2 := Lib.hid hb2
      have HQ4 := Lib.hid hq4
      have HE4 := Lib.hid hE4
      clear hB hb1 hb2 hq4 hE4 cq fq
      go_wp2_with fail
      have hend := (Blk.putCells (cs := [.int .i64 0, .string noStr, .int .i64 0, .slice none 0 0]) (vs := [.int .i64 2, .string (bareS 2 s), .int .i64 (bareX 2 x), .slice none 0 0]) HB2.out rfl).alloc (.cells #[.int .i64 2, .string (bareS 2 s), .int .i64 (bareX 2 x), .slice none 0 0] 24)
      have hpost := pt_end (L := L) (b := w.heap.size + 1) (e := .returned (.tuple #[.agg #[.int .i64 2, .string (bareS 2 s), .int .i64 (bareX 2 x), .slice none 0 0], .bool true])) HE4.out hql HQ.out.col HQ4.out (cs := [.int .i64 0, .string noStr, .int .i64 0, .slice none 0 0]) HB2.out (by omega) (by omega) rfl wk (k := 2) (s := bareS 2 s) (x := bareX 2 x) (bareS_le _ _ ws) (bareX_rng _ _ wx) (.cells #[.int .i64 2, .string (bareS 2 s), .int .i64 (bareX 2 x), .slice none 0 0] 24) rfl
      simp only [putCells, Nat.reduceAdd] at hend hpost
      ((try simp only [Exit.inBlock, Exit.then]); refine bodyPost_ret (results_ct rfl _ _ ((w.heap.size + 1)) 24 _ _ _ rfl (hend.at_) Try.underlying24 rfl (by kernel_rfl)) rfl ?_)
      rw [HR.out, HSZ.out, if_neg (by decide), if_neg (by decide), if_neg (by decide)]
      exact hpost
  by_cases k1 : k = 1
  · subst k1
    clear hpl HAT
    rw [if_pos rfl] at HR
    cases fb
    · rw [HFF.out rfl] at HR
      go_enter Try.func43, Try.ntmps43
      go_wp2_with fail
      refine (bare_any _ _ _ _ _ _ _ (by omega)).mono ?_
      rintro e w4 ⟨rfl, hB⟩
      obtain ⟨hb1, hb2, hq4, hE4, hs4⟩ := pt_world B HQ.out _ _ _ hB
      have c0 : w4.cell? ⟨w.heap.size, 0, none⟩ = some (.int .i64 1) := hb1.cell 0
      have f0 := hb2.free 0
      have f1 := hb2.free 1
      have f2 := hb2.free 2
      have f3 := hb2.free 3
      have l0 : w.heap.size < w4.heap.size := by omega
      have l1 : w.heap.size + 1 < w4.heap.size := by omega
      have d0 : w4.cell? ⟨w.heap.size + 1, 0, none⟩ = some (.int .i64 0) := hb2.cell 0
      have d1 : w4.cell? ⟨w.heap.size + 1, 1, none⟩ = some (.string noStr) := hb2.cell 1
      have d2 : w4.cell? ⟨w.heap.size + 1, 2, none⟩ = some (.int .i64 0) := hb2.cell 2
      have d3 : w4.cell? ⟨w.heap.size + 1, 3, none⟩ = some (.slice none 0 0) := hb2.cell 3
      have HB1 := Lib.hid hb1
      have HB2 := Lib.hid hb2
      have HQ4 := Lib.hid hq4
      have HE4 := Lib.hid hE4
      clear hB hb1 hb2 hq4 hE4 cq fq
      go_wp2_with fail
      have hend := (Blk.putCells (cs := [.int .i64 0, .string noStr, .int .i64 0, .slice none 0 0]) (vs := [.int .i64 1, .string (bareS 1 s), .int .i64 (bareX 1 x), .slice none 0 0]) HB2.out rfl).alloc (.cells #[.int .i64 1, .string (bareS 1 s), .int .i64 (bareX 1 x), .slice none 0 0] 24)
      have hpost := pt_end (L := L) (b := w.heap.size + 1) (e := .returned (.tuple #[.agg #[.int .i64 1, .string (bareS 1 s), .int .i64 (bareX 1 x), .slice none 0 0], .bool true])) HE4.out hql HQ.out.col HQ4.out (cs := [.int .i64 0, .string noStr, .int .i64 0, .slice none 0 0]) HB2.out (by omega) (by omega) rfl wk (k := 1) (s := bareS 1 s) (x := bareX 1 x) (bareS_le _ _ ws) (bareX_rng _ _ wx) (.cells #[.int .i64 1, .string (bareS 1 s), .int .i64 (bareX 1 x), .slice none 0 0] 24) rfl
      simp only [putCells, Nat.reduceAdd] at hend hpost
      ((try simp only [Exit.inBlock, Exit.then]); refine bodyPost_ret (results_ct rfl _ _ ((w.heap.size + 1)) 24 _ _ _ rfl (hend.at_) Try.underlying24 rfl (by kernel_rfl)) rfl ?_)
      rw [HR.out, HSZ.out, if_neg (by decide)]
      exact hpost
    · obtain ⟨hfk, hfs, hfx, wf⟩ := HFT.out rfl
      rw [hfx] at HR
      have HF := Lib.hid hfs
      subst hfk
      subst hfs
      clear hfx
      unfold noStr at hlk
      go_enter Try.func43, Try.ntmps43
      go_wp2_with fail
      refine (bare_any _ _ _ _ _ _ _ (by omega)).mono ?_
      rintro e w4 ⟨rfl, hB⟩
      obtain ⟨hb1, hb2, hq4, hE4, hs4⟩ := pt_world B HQ.out _ _ _ hB
      have c0 : w4.cell? ⟨w.heap.size, 0, none⟩ = some (.int .i64 1) := hb1.cell 0
      have f0 := hb2.free 0
      have f1 := hb2.free 1
      have f2 := hb2.free 2
      have f3 := hb2.free 3
      have l0 : w.heap.size < w4.heap.size := by omega
      have l1 : w.heap.size + 1 < w4.heap.size := by omega
      have d0 : w4.cell? ⟨w.heap.size + 1, 0, none⟩ = some (.int .i64 0) := hb2.cell 0
      have d1 : w4.cell? ⟨w.heap.size + 1, 1, none⟩ = some (.string noStr) := hb2.cell 1
      have d2 : w4.cell? ⟨w.heap.size + 1, 2, none⟩ = some (.int .i64 0) := hb2.cell 2
      have d3 : w4.cell? ⟨w.heap.size + 1, 3, none⟩ = some (.slice none 0 0) := hb2.cell 3
      have HB1 := Lib.hid hb1
      have HB2 := Lib.hid hb2
      have HQ4 := Lib.hid hq4
      have HE4 := Lib.hid hE4
      clear hB hb1 hb2 hq4 hE4 cq fq
      go_wp2_with fail
      have hend := (Blk.putCells (cs := [.int .i64 0, .string noStr, .int .i64 0, .slice none 0 0]) (vs := [.int .i64 1, .string (bareS 1 noStr), .int .i64 (bareX 1 fx), .slice none 0 0]) HB2.out rfl).alloc (.cells #[.int .i64 1, .string (bareS 1 noStr), .int .i64 (bareX 1 fx), .slice none 0 0] 24)
      have hpost := pt_end (L := L) (b := w.heap.size + 1) (e := .returned (.tuple #[.agg #[.int .i64 1, .string (bareS 1 noStr), .int .i64 (bareX 1 fx), .slice none 0 0], .bool true])) HE4.out hql HQ.out.col HQ4.out (cs := [.int .i64 0, .string noStr, .int .i64 0, .slice none 0 0]) HB2.out (by omega) (by omega) rfl wk (k := 1) (s := bareS 1 noStr) (x := bareX 1 fx) (bareS_le _ _ (by decide)) (bareX_rng _ _ wf) (.cells #[.int .i64 1, .string (bareS 1 noStr), .int .i64 (bareX 1 fx), .slice none 0 0] 24) rfl
      simp only [putCells, Nat.reduceAdd] at hend hpost
      ((try simp only [Exit.inBlock, Exit.then]); refine bodyPost_ret (results_ct rfl _ _ ((w.heap.size + 1)) 24 _ _ _ rfl (hend.at_) Try.underlying24 rfl (by kernel_rfl)) rfl ?_)
      rw [HR.out, HSZ.out, if_neg (by decide)]
      exact hpost
  by_cases k3 : k = 3
  · subst k3
    clear hpl HAT
    cases fb
    all_goals
      go_enter Try.func43, Try.ntmps43
      go_wp2_with fail
      refine (bare_any _ _ _ _ _ _ _ (by omega)).mono ?_
      rintro e w4 ⟨rfl, hB⟩
      obtain ⟨hb1, hb2, hq4, hE4, hs4⟩ := pt_world B HQ.out _ _ _ hB
      have c0 : w4.cell? ⟨w.heap.size, 0, none⟩ = some (.int .i64 3) := hb1.cell 0
      have f0 := hb2.free 0
      have f1 := hb2.free 1
      have f2 := hb2.free 2
      have f3 := hb2.free 3
      have l0 : w.heap.size < w4.heap.size := by omega
      have l1 : w.heap.size + 1 < w4.heap.size := by omega
      have d0 : w4.cell? ⟨w.heap.size + 1, 0, none⟩ = some (.int .i64 0) := hb2.cell 0
      have d1 : w4.cell? ⟨w.heap.size + 1, 1, none⟩ = some (.string noStr) := hb2.cell 1
      have d2 : w4.cell? ⟨w.heap.size + 1, 2, none⟩ = some (.int .i64 0) := hb2.cell 2
      have d3 : w4.cell? ⟨w.heap.size + 1, 3, none⟩ = some (.slice none 0 0) := hb2.cell 3
      have HB1 := Lib.hid hb1
      have HB2 := Lib.hid hb2
      have HQ4 := Lib.hid hq4
      have HE4 := Lib.hid hE4
      clear hB hb1 hb2 hq4 hE4 cq fq
      go_wp2_with fail
      have hend := (Blk.putCells (cs := [.int .i64 0, .string noStr, .int .i64 0, .slice none 0 0]) (vs := [.int .i64 3, .string (bareS 3 s), .int .i64 (bareX 3 x), .slice none 0 0]) HB2.out rfl).alloc (.cells #[.int .i64 3, .string (bareS 3 s), .int .i64 (bareX 3 x), .slice none 0 0] 24)
      have hpost := pt_end (L := L) (b := w.heap.size + 1) (e := .returned (.tuple #[.agg #[.int .i64 3, .string (bareS 3 s), .int .i64 (bareX 3 x), .slice none 0 0], .bool true])) HE4.out hql HQ.out.col HQ4.out (cs := [.int .i64 0, .string noStr, .int .i64 0, .slice none 0 0]) HB2.out (by omega) (by omega) rfl wk (k := 3) (s := bareS 3 s) (x := bareX 3 x) (bareS_le _ _ ws) (bareX_rng _ _ wx) (.cells #[.int .i64 3, .string (bareS 3 s), .int .i64 (bareX 3 x), .slice none 0 0] 24) rfl
      simp only [putCells, Nat.reduceAdd] at hend hpost
      ((try simp only [Exit.inBlock, Exit.then]); refine bodyPost_ret (results_ct rfl _ _ ((w.heap.size + 1)) 24 _ _ _ rfl (hend.at_) Try.underlying24 rfl (by kernel_rfl)) rfl ?_)
      rw [HR.out, HSZ.out, if_neg (by decide), if_neg (by decide), if_neg (by decide)]
      exact hpost
  have k4 : k = 4 := by
    unfold Tm.pl at hpl
    omega
  subst k4
  have hpl4 : 1 ≤ ls.length ∧ ls.length ≤ 8 ∧ Tms.pl ls := by
    unfold Tm.pl at hpl
    rcases hpl with h | h | h | h
    · omega
    · omega
    · omega
    · exact ⟨h.2.2.1, h.2.2.2.1, h.2.2.2.2⟩
  obtain ⟨hlen1, hlen8, hpls⟩ := hpl4
  have HPL := Lib.hid hpls
  rw [HSZ.out, if_pos rfl] at hn2 ⊢
  rw [HDP.out, if_pos rfl] at hd2
  rw [HR.out, if_neg (by decide), if_pos rfl]
  have hbs : bareS 4 s = s := rfl
  have hbx : bareX 4 x = 0 := rfl
  unfold Tm.At at HAT
  rcases HAT.out with ⟨hl, _⟩ | ⟨hl, g, off, c, he, hg, hc, hts⟩
  · subst hl
    simp at hlen1
  injection he with he1 he2 he3
  subst he1
  subst he2
  subst he3
  have HTS := Lib.hid hts
  have WS := Lib.hid (show s.size ≤ 9223372036854775807 from ws)
  clear hts HAT HR HSZ HDP hpl hpls hp1 hp2 wk ws wx k2 k1 k3 HFT HFF
  have HBARE := Lib.hid (fun a n c w => (bare_any 4 s x a n c w (by decide)))
  rw [hbs, hbx] at HBARE
  clear hbs hbx
  cases fb
  all_goals
    go_enter Try.func43, Try.ntmps43
    go_wp2_with fail
    refine (HBARE.out _ _ _ _).mono ?_
    rintro e w4 ⟨rfl, hB⟩
    obtain ⟨hb1, hb2, hq4, hE4, hs4⟩ := pt_world B HQ.out _ _ _ hB
    have c0 : w4.cell? ⟨w.heap.size, 0, none⟩ = some (.int .i64 4) := hb1.cell 0
    have c3 : w4.cell? ⟨w.heap.size, 3, none⟩ = some (.slice (some ⟨g, off, none⟩) ls.length c2) := hb1.cell 3
    have l0 : w.heap.size < w4.heap.size := by omega
    have HB2 := Lib.hid hb2
    have HQ4 := Lib.hid hq4
    have HE4 := Lib.hid hE4
    clear hB hb1 hb2 hq4 hE4 cq fq hlk
    go_wp2_with fail
    have hrel0 : PtInv w own K L B q w4.heap.size ls m n s ls.length (.int .i64 0) (w4.alloc (.cells #[.int .i64 4, .string s, .int .i64 0, .slice none 0 0] 24)) := by
      refine ⟨ow (ow own w.heap.size B) w4.heap.size (B + 1), 0, _, rfl, by omega, TRow.nil _ _ _ _, Blk.new _ _ (ow_ge (Nat.le_refl _)), ?_, ?_, HE4.out.trans (ext_box (B + 1) _), fun g => ?_⟩
      · rw [List.take_zero, Tms.sz, Int.add_zero]
        exact (HQ4.out.ow (B + 1)).alloc _
      · exact (HB2.out.ow (B + 1)).alloc _
      · unfold ow
        have := HCOL.out g
        split
        · split <;> omega
        · omega
    have HREL := Lib.hid hrel0
    clear hrel0
    have ho : w.heap.size ≤ w4.heap.size := by omega
    generalize w4.alloc (.cells #[.int .i64 4, .string s, .int .i64 0, .slice none 0 0] 24) = w5 at *
    generalize w4.heap.size = o at *
    clear HB2 HQ4 HE4 c0 c3 l0 hs4
    go_loopg [54] ls.length (fun g iv wr => PtInv w own K L B q o ls m n s g iv wr)
    case atStart => exact HREL.out
    case round =>
      obtain ⟨ownr, i, ov, rfl, hi, hrow, hob, hqr, hb8, hER, hcr⟩ := hrel
      have HROW := Lib.hid hrow
      have HOB := Lib.hid hob
      have HQR := Lib.hid hqr
      have HB8 := Lib.hid hb8
      have HER := Lib.hid hER
      have HCR := Lib.hid hcr
      obtain ⟨ao, co, rfl⟩ := hrow.shape
      have hz := hER.size
      by_cases hlt : i < ls.length
      · have hlt2 : (i : Int) < ls.length := by omega
        obtain ⟨a3, l3, c3, q0, q1, q2, q3, htv⟩ := elem_ext HTS.out hg hc hER hlt
        have hsz2 := szs_take ls i hlt
        have hp1 := sz_pos ls[i]
        have hp3 := szs_pos (ls.take i)
        have hdp2 := dps_mem ls ls[i] (List.getElem_mem hlt)
        have HRT := Lib.hid (rens_take m ls i hlt)
        have HST := Lib.hid hsz2.1
        have HI := Lib.hid (IH.out ls[i] (List.getElem_mem hlt) (wr.alloc (.cells #[.int .i64 ls[i].k, .string ls[i].s, .int .i64 ls[i].x, .slice a3 l3 c3] 24)) (ow ownr wr.heap.size B) K L (B + 3) q _ (.map mo) m (deep + 1) (n + 1 + Tms.sz (ls.take i))
          (TmV.ext htv (ext_box B _)) ((HM.out.ext HER.out).ext (ext_box B _)) ((HQR.out.ow B).alloc _) (pls_mem _ HPL.out _ (List.getElem_mem hlt)) (by omega) (by omega) (by omega) (by omega) hLK (by omega) (by omega) (fun g => by
            unfold ow
            have := HCR.out g
            split <;> omega))
        clear hrow hob hqr hb8 hER hcr htv
        generalize Tm.k ls[i] = k1 at *
        generalize Tm.s ls[i] = s1 at *
        generalize Tm.x ls[i] = x1 at *
        go_wp2_with fail
        refine HI.out.mono ?_
        rintro e w6 ⟨v6, rfl, htv6, hE6, hq6⟩
        have hEV := (ext_box (M := fun c => c = K) (own := ownr) B (.cells #[.int .i64 k1, .string s1, .int .i64 x1, .slice a3 l3 c3] 24)).trans hE6
        have hc6 : ∀ g, ow (ow ownr wr.heap.size B) (wr.alloc (.cells #[.int .i64 k1, .string s1, .int .i64 x1, .slice a3 l3 c3] 24)).heap.size L g < B + 3 := fun g => by
          unfold ow
          have := HCR.out g
          split
          · split <;> omega
          · omega
        have hL6 : ∀ g, (wr.alloc (.cells #[.int .i64 k1, .string s1, .int .i64 x1, .slice a3 l3 c3] 24)).heap.size ≤ g → ow (ow ownr wr.heap.size B) (wr.alloc (.cells #[.int .i64 k1, .string s1, .int .i64 x1, .slice a3 l3 c3] 24)).heap.size L g = L := fun g hg => ow_ge hg
        have hsz6 := hEV.size
        have hge : w.heap.size ≤ (wr.alloc (.cells #[.int .i64 k1, .string s1, .int .i64 x1, .slice a3 l3 c3] 24)).heap.size := by rw [World.size_alloc]; omega
        generalize ow (ow ownr wr.heap.size B) (wr.alloc (.cells #[.int .i64 k1, .string s1, .int .i64 x1, .slice a3 l3 c3] 24)).heap.size L = own6 at *
        generalize (wr.alloc (.cells #[.int .i64 k1, .string s1, .int .i64 x1, .slice a3 l3 c3] 24)).heap.size = z6 at *
        have HQ6 := Lib.hid hq6
        have HO6 := Lib.hid (HOB.out.ext hEV (by omega))
        have b3 : w6.cell? ⟨o, 3, none⟩ = some (.slice ao (Tms.ren m (ls.take i)).length co) := HO6.out.cell 3
        have hol := HO6.out.lt
        have HTV6 := Lib.hid htv6
        obtain ⟨a6, l6, c6, rfl, -, -, -, -⟩ := TmV_open htv6
        have HEV := Lib.hid hEV
        have HC6 := Lib.hid hc6
        have HL6 := Lib.hid hL6
        clear HI hE6 hq6 htv6 hEV hc6 hL6 q0 q1 q2 q3
        generalize hrn : Tm.ren m ls[i] = t6 at *
        clear hrn
        generalize Tm.k t6 = k6 at *
        generalize Tm.s t6 = s6 at *
        generalize Tm.x t6 = x6 at *
        have hlen3 : (Tms.ren m (ls.take i)).length ≤ 1000000000000 := by rw [rens_len, List.length_take]; omega
        have HTV7 := Lib.hid (HTV6.out.carry (w' := w6.alloc (.cells #[.int .i64 k6, .string s6, .int .i64 x6, .slice a6 l6 c6] 24)) (C' := fun g => ow own6 w6.heap.size B g = L ∧ w.heap.size ≤ g) (by rw [World.size_alloc]; omega) fun g hg hc => ⟨heap_alloc_old _ _ hg, by rw [ow_lt hg]; exact HL6.out g hc, by omega⟩)
        have HROW7 := Lib.hid (HROW.out.ext (C' := fun g => ow own6 w6.heap.size B g = L ∧ w.heap.size ≤ g) (HEV.out.trans (ext_box B (.cells #[.int .i64 k6, .string s6, .int .i64 x6, .slice a6 l6 c6] 24))) (by omega) fun g hg hc => ⟨by omega, by rw [ow_lt (by omega), HEV.out.col g hg]; exact hc.1, hc.2⟩)
        clear HTV6 HROW
        go_wp2_with (at_builtin; refine wpList_append_trow rfl _ _ rfl HTV7.out rfl HROW7.out hlen3 (fun g hg hc => by omega) rfl (by rw [World.size_alloc]) ?_; intro v8 w8 hr8 hE8; obtain ⟨a8, c8, rfl⟩ := TRow.shape hr8; rw [List.length_append, List.length_singleton] at hr8 ⊢; have HR8 := Lib.hid hr8; have HE8 := Lib.hid hE8; have HO8 := Lib.hid (((HO6.out.ow B).alloc _).ext hE8 (by omega)); have b8 := HO8.out.cell 3; have f8 := HO8.out.free 3; have hol8 := HO8.out.lt; clear hr8 hE8 b3)
        have hE9 : Ext (fun c => c = B + 1) w8 (w8.setCell ⟨o, 3, none⟩ (.slice a8 ((Tms.ren m (List.take i ls)).length + 1) c8)) (ow (ow own6 w6.heap.size B) (w6.alloc (.cells #[.int .i64 k6, .string s6, .int .i64 x6, .slice a6 l6 c6] 24)).heap.size (B + 2)) (ow (ow own6 w6.heap.size B) (w6.alloc (.cells #[.int .i64 k6, .string s6, .int .i64 x6, .slice a6 l6 c6] 24)).heap.size (B + 2)) :=
          Ext.refl.setCell (fun _ => HO8.out.col) _
        have HE9 := Lib.hid hE9
        have HQ8 := Lib.hid ((((HQ6.out.ow B).alloc (.cells #[.int .i64 k6, .string s6, .int .i64 x6, .slice a6 l6 c6] 24)).ext HE8.out (by omega)).ext hE9 (by omega))
        have hB88 := ((((HB8.out.ext HEV.out (by omega)).ow B).alloc (.cells #[.int .i64 k6, .string s6, .int .i64 x6, .slice a6 l6 c6] 24)).ext HE8.out (by omega)).ext hE9 (by omega)
        have HB88 := Lib.hid hB88
        have HO9 := HO8.out.setCell 3 (.slice a8 ((Tms.ren m (List.take i ls)).length + 1) c8)
        have HEE := Lib.hid (Ext_mask (Ext_mask (HER.out.trans (HEV.out.trans (ext_box B (.cells #[.int .i64 k6, .string s6, .int .i64 x6, .slice a6 l6 c6] 24)))) HE8.out (fun b hb => by have := HCOL.out b; omega)) hE9 (fun b hb => by have := HCOL.out b; omega))
        go_roundg (ls.length - (i + 1))
        case measure => omega
        case rel =>
          refine ⟨_, i + 1, _, by go_num, by omega, ?_, HO9, ?_, HB88.out, HEE.out, fun g => ?_⟩
          · rw [HRT.out]
            exact HR8.out.ext HE9.out (by omega) fun g hg hc => ⟨by rw [ow_lt hc.2]; omega, by rw [ow_lt hc.2]; exact hc.1.1, hc.1.2⟩
          · rw [HST.out, ← Int.add_assoc]
            exact HQ8.out
          · have := HC6.out g
            unfold ow
            split
            · split <;> omega
            · omega
      · obtain rfl : i = ls.length := by omega
        clear HROW HOB HQR
        rw [List.take_length] at hrow hob hqr
        have HROW := Lib.hid hrow
        have HQR := Lib.hid hqr
        have c0 : wr.cell? ⟨o, 0, none⟩ = some (.int .i64 4) := hob.cell 0
        have c1 : wr.cell? ⟨o, 1, none⟩ = some (.string s) := hob.cell 1
        have c2 : wr.cell? ⟨o, 2, none⟩ = some (.int .i64 0) := hob.cell 2
        have c3 : wr.cell? ⟨o, 3, none⟩ = some (.slice ao (Tms.ren m ls).length co) := hob.cell 3
        have f0 := hb8.free 0
        have f1 := hb8.free 1
        have f2 := hb8.free 2
        have f3 := hb8.free 3
        have l1 := hb8.lt
        have d0 : wr.cell? ⟨w.heap.size + 1, 0, none⟩ = some (.int .i64 0) := hb8.cell 0
        have d1 : wr.cell? ⟨w.heap.size + 1, 1, none⟩ = some (.string noStr) := hb8.cell 1
        have d2 : wr.cell? ⟨w.heap.size + 1, 2, none⟩ = some (.int .i64 0) := hb8.cell 2
        have d3 : wr.cell? ⟨w.heap.size + 1, 3, none⟩ = some (.slice none 0 0) := hb8.cell 3
        have hlr : (Tms.ren m ls).length ≤ 9223372036854775807 := by rw [rens_len]; omega
        have HLR := Lib.hid hlr
        clear hrow hob hqr hb8 hER hcr hlr
        go_wp2_with fail
        have hend := Blk.putCells (cs := [.int .i64 0, .string noStr, .int .i64 0, .slice none 0 0]) (vs := [.int .i64 4, .string s, .int .i64 0, .slice ao (Tms.ren m ls).length co]) HB8.out rfl
        have hpost := pt_end4 (L := L) (B := B) (b := w.heap.size + 1) (e := .returned (.tuple #[.agg #[.int .i64 4, .string s, .int .i64 0, .slice ao (Tms.ren m ls).length co], .bool true])) hLB hKB HER.out hql HQ.out.col HQR.out (cs := [.int .i64 0, .string noStr, .int .i64 0, .slice none 0 0]) HB8.out (by omega) rfl WS.out HLR.out HROW.out HCOL.out rfl
        simp only [putCells, Nat.reduceAdd] at hend hpost
        ((try simp only [Exit.inBlock, Exit.then]); refine bodyPost_ret (results_ct rfl _ _ ((w.heap.size + 1)) 24 _ _ _ rfl (hend.at_) Try.underlying24 rfl (by kernel_rfl)) rfl ?_)
        rw [Int.add_assoc] at hpost
        exact hpost
end Go.Proofs.Ytamiidklcadkmaa

/- Layer 3: Begin, listed, Len, Name, New, Intern. -/
import Derived.Test.YtkfinhakhhiabaaAtomsStep2
import Derived.Laws.IdiomStrings
set_option maxRecDepth 20000
set_option linter.unusedVariables false
set_option linter.unusedSimpArgs false
namespace Go.Proofs.Ytkfinhakhhiabaa
open Go.RowKit Go.PM

/-- Where a name's list begins. -/
def hashN (nb : Int) (l : List UInt8) : Int := l.foldl (fun s c => (s * 31 + c.toNat) % nb) 0
theorem hashN_snoc (nb : Int) (l : List UInt8) (c : UInt8) : hashN nb (l ++ [c]) = (hashN nb l * 31 + c.toNat) % nb := by simp [hashN]
theorem hashN_range {nb : Int} (h : 1 ≤ nb) (l : List UInt8) : 0 ≤ hashN nb l ∧ hashN nb l < nb := by
  rcases List.eq_nil_or_concat l with rfl | ⟨l, c, rfl⟩
  · exact ⟨Int.le_refl _, by show (0 : Int) < nb; omega⟩
  · rw [List.concat_eq_append, hashN_snoc]
    exact ⟨Int.emod_nonneg _ (by omega), Int.emod_lt_of_pos _ (by omega)⟩
def OV.begin_ (T : TV) (s : ByteArray) : OV := ⟨s, 1 + hashN T.buckets s.data.toList, 0, 0, 0, false, 0, 0, 0⟩
def HashInv (wb : World) (nb : Int) (l : List UInt8) (g : Nat) (sv iv : Value) (w : World) : Prop :=
  ∃ i : Nat, iv = .int .i64 i ∧ i + g = l.length ∧ sv = .int .i64 (hashN nb (l.take i)) ∧ w = wb
section
variable {w : World} {own : Nat → Nat} {ka kt ko a t o : Nat} {V : AV} {T : TV} {O : OV}
theorem bytesRow_get (s : ByteArray) (c i : Nat) (h : i < s.data.toList.length) : (bytesRow s c)[i]? = some (.int .u8 (s.data.toList[i].toNat : Int)) := by
  unfold bytesRow
  have h2 : i < s.data.size := by simpa using h
  rw [Array.getElem?_append_left (by simpa using h2), Array.getElem?_map]
  rw [Array.getElem?_eq_getElem h2]
  simp
set_option maxHeartbeats 2000000 in
theorem Begin_any (hT : Table w own kt t a T) (hb : 1 ≤ T.buckets ∧ T.buckets ≤ 64) (s : ByteArray) (hs : s.size ≤ 9223372036854775807) (L : Nat) :
    Calls Try.prog 8 #[.pointer (some ⟨t, 0, none⟩), .string s] w fun e w' => ∃ o, e = .returned (.pointer (some ⟨o, 0, none⟩)) ∧ w.heap.size ≤ o ∧ Below w.heap.size w w' ∧ OpAt w' (ow own w.heap.size L) L o t (OV.begin_ T s) := by
  obtain ⟨mb, clock, Ln, hT⟩ := hT
  have hconv := run_bytes_of_string (P := Try.prog) w 9 51 5 s Try.underlying9 Try.underlying51 Try.underlying5
  have hlen : s.data.toList.length = s.size := Array.length_toList
  generalize grownCap w s.size 0 5 = c at *
  have hcell : ∀ i (h : i < s.data.toList.length), ((w.alloc (.cells (bytesRow s c) 5 ((bytesRow s c).size, (bytesRow s c).size + 1))).drew).cell? ⟨w.heap.size, i, none⟩ = some (.int .u8 (s.data.toList[i].toNat : Int)) := fun i h => by
    have hb := (Blk.new (own := fun _ => 0) (k := 0) w.drew (.cells (bytesRow s c) 5 ((bytesRow s c).size, (bytesRow s c).size + 1)) rfl).cell i
    rw [← bytesRow_get s c i h]
    exact hb
  have hB : Below w.heap.size w ((w.alloc (.cells (bytesRow s c) 5 ((bytesRow s c).size, (bytesRow s c).size + 1))).drew) := ((Below.refl _ _).alloc (Nat.le_refl _) _).drew
  have hT1 := hT.ext (Ext.of_below (M := fun _ => False) hB own 0) (by simp)
  obtain ⟨t0, t1, t2, t3, t4⟩ := five_t hT1.root
  clear hT hT1
  go_enter Try.func8, Try.ntmps8
  go_wp2_with fail
  generalize (w.alloc (.cells (bytesRow s c) 5 ((bytesRow s c).size, (bytesRow s c).size + 1))).drew = wb at *
  have HCELL := Lib.hid hcell
  have HB := Lib.hid hB
  clear hcell hB
  have HOV := Lib.hid (show OV.begin_ T s = ⟨s, 1 + hashN T.buckets s.data.toList, 0, 0, 0, false, 0, 0, 0⟩ from rfl)
  generalize hl : s.data.toList = l at *
  clear hl
  rw [← hlen] at hs ⊢
  go_loopg [5, 11] l.length (fun g sv iv wr => HashInv wb T.buckets l g sv iv wr)
  case atStart => exact ⟨0, rfl, by omega, rfl, rfl⟩
  case round =>
    obtain ⟨i, rfl, hi, rfl, rfl⟩ := hrel
    by_cases hlt : i < l.length
    · have hlt2 : (i : Int) < l.length := by omega
      have c0 := HCELL.out i hlt
      have HS := Lib.hid (show hashN T.buckets (l.take (i + 1)) = (hashN T.buckets (l.take i) * 31 + l[i].toNat) % T.buckets by rw [List.take_succ_eq_append_getElem hlt, hashN_snoc])
      have hr := hashN_range hb.1 (l.take i)
      have hu : l[i].toNat < 256 := UInt8.toNat_lt _
      generalize l[i].toNat = u at *
      generalize hashN T.buckets (l.take i) = h0 at *
      go_wp2_with fail
      go_roundg (l.length - (i + 1))
      case measure => omega
      case rel => exact ⟨i + 1, by go_num, by omega, by rw [HS.out], rfl⟩
    · obtain rfl : i = l.length := by omega
      rw [List.take_length]
      have hr := hashN_range hb.1 l
      go_wp2_with fail
      go_ret
      exact ⟨_, rfl, HB.out.size, HB.out.alloc HB.out.size _, by rw [HOV.out]; exact Blk.new _ _ (ow_ge HB.out.size)⟩
/-! ### listed -/
/-- A list's beginning: 0 if it has none. -/
def hd : List Int → Int
  | [] => 0
  | x :: _ => x
/-- A list of blocks, each with the next one's number in its cell. -/
def ChainOk (V : AV) : List Int → Prop
  | [] => True
  | id :: rest => 0 < id ∧ V.find id = some [hd rest] ∧ ChainOk V rest
/-- How a table's lists lie: from the heads in its block. -/
structure Tab (V : AV) (T : TV) (ls : Nat → List Int) : Prop where
  bk : 1 ≤ T.buckets ∧ T.buckets ≤ 64
  root : ∃ xs, V.find T.block = some xs ∧ (xs.length : Int) = T.buckets + 1 ∧ ∀ c : Nat, 1 ≤ c → (c : Int) ≤ T.buckets → xs.getD c 0 = hd (ls c)
  chain : ∀ c : Nat, 1 ≤ c → (c : Int) ≤ T.buckets → ChainOk V (ls c)
theorem AV.val_at {V : AV} {b : Int} {xs : List Int} (h : V.find b = some xs) {i : Nat} (hi : i < xs.length) : V.val b i = xs.getD i 0 ∧ V.err b i = 0 ∧ V.touch b = V := by
  have h1 : (0 : Int) ≤ i ∧ (i : Int) < xs.length := by omega
  refine ⟨?_, ?_, ?_⟩
  · unfold AV.val; rw [h]; simp only; rw [if_pos h1, Int.toNat_natCast]
  · unfold AV.err; rw [h]; simp only; rw [if_pos h1]
  · unfold AV.touch; rw [h]
theorem Tab.head {V : AV} {T : TV} {ls : Nat → List Int} (h : Tab V T ls) {c : Nat} (h1 : 1 ≤ c) (h2 : (c : Int) ≤ T.buckets) : V.val T.block c = hd (ls c) ∧ V.err T.block c = 0 ∧ V.touch T.block = V := by
  obtain ⟨xs, hx, hl, hh⟩ := h.root
  obtain ⟨e1, e2, e3⟩ := AV.val_at hx (i := c) (by omega)
  exact ⟨by rw [e1]; exact hh c h1 h2, e2, e3⟩
theorem AV.val_one {V : AV} {b x : Int} (h : V.find b = some [x]) : V.val b 0 = x ∧ V.err b 0 = 0 ∧ V.touch b = V := by
  obtain ⟨e1, e2, e3⟩ := AV.val_at h (i := 0) (by simp)
  exact ⟨e1, e2, e3⟩
def ListInv (w0 : World) (own0 : Nat → Nat) (ka kt t a K : Nat) (V : AV) (T : TV) (l : List Int) (g : Nat) (ov xv : Value) (w : World) : Prop :=
  ∃ (own : Nat → Nat) (done rest : List Int), l = done ++ rest ∧ rest.length = g ∧ xv = .int .i64 (hd rest) ∧ ChainOk V rest ∧ Row w own K 3 1 ov done.length (irow done) ∧ Arena w own ka a V ∧ Table w own kt t a T ∧
    Ext (fun c => c = ka ∨ c = K) w0 w own0 own
theorem fresh_colour (own : Nat → Nat) : ∀ n : Nat, ∃ K, ∀ b, b < n → own b < K
  | 0 => ⟨0, fun b h => by omega⟩
  | n + 1 => by
    obtain ⟨K, h⟩ := fresh_colour own n
    refine ⟨max K (own n + 1), fun b hb => ?_⟩
    by_cases hbn : b = n
    · subst hbn; omega
    · have := h b (by omega); omega
theorem Arena.recol {own' : Nat → Nat} (h : Arena w own ka a V) (hc : ∀ b, b < w.heap.size → own b = ka → own' b = ka) : Arena w own' ka a V := by
  obtain ⟨ho, mb, c, L, h⟩ := h
  exact ⟨ho, mb, c, L, ⟨h.root.at_, hc _ h.root.lt h.root.col⟩, ⟨h.map.at_, hc _ h.map.lt h.map.col⟩, fun e he => ⟨(h.blk e he).at_, hc _ (h.blk e he).lt (h.blk e he).col⟩, h.dis, h.view⟩
/-- A row made in a fresh colour may be named anew. -/
theorem list_end {w' : World} {own' : Nat → Nat} {K L : Nat} {v : Value} {l : List Int} (hK : ∀ b, b < w.heap.size → own b < K) (hka : ka < K) (hE : Ext (fun c => c = ka ∨ c = K) w w' own own') (hr : Row w' own' K 3 1 v l.length (irow l)) (hA : Arena w' own' ka a V) :
    ∃ own2, Row w' own2 L 3 1 v l.length (irow l) ∧ Arena w' own2 ka a V ∧ Ext (fun c => c = ka) w w' own own2 := by
  refine ⟨fun b => if b < w.heap.size then own' b else if own' b = K then L else own' b, hr.recol fun b hb hc => ?_, hA.recol fun b hb hc => ?_, hE.os, hE.tape, hE.output, hE.size, fun b hb => ?_, fun b hb hn => ?_⟩
  · by_cases h : b < w.heap.size
    · have := hK b h
      rw [hE.col b h] at hc
      omega
    · rw [if_neg h, if_pos hc]
  · by_cases h : b < w.heap.size
    · rw [if_pos h]; exact hc
    · rw [if_neg h, if_neg (by omega)]; exact hc
  · rw [if_pos hb]; exact hE.col b hb
  · have := hK b hb
    exact hE.same b hb (fun h => by rcases h with h | h; exact hn h; omega)
set_option maxHeartbeats 2000000 in
theorem listed_any (hA : Arena w own ka a V) (hT : Table w own kt t a T) (hat : ka ≠ kt) (hf : V.faults < 1000000000000000) (c : Nat) (l : List Int) (hl : l.length ≤ 6000000000000) (h0 : V.val T.block c = hd l) (h1 : V.touch T.block = V) (hc : ChainOk V l) (L : Nat) :
    Calls Try.prog 25 #[.pointer (some ⟨t, 0, none⟩), .int .i64 c] w fun e w' => ∃ v own', e = .returned v ∧ Row w' own' L 3 1 v l.length (irow l) ∧ Arena w' own' ka a V ∧ Ext (fun c => c = ka) w w' own own' := by
  obtain ⟨K, hK⟩ := fresh_colour own w.heap.size
  have hka : ka < K := by
    obtain ⟨h1, h2⟩ := hA.lt
    rw [← h2]; exact hK a h1
  obtain ⟨mb, clock, Ln, hT1⟩ := hT
  have hkt : kt < K := by
    have := hK t hT1.root.lt
    rw [hT1.root.col] at this
    exact this
  obtain ⟨t0, t1, t2, t3, t4⟩ := five_t hT1.root
  have hX : Ext (fun _ => False) w w.drew own own := Ext.refl.drew
  have HL := Lib.hid (Load_any (hA.ext hX (by simp)) hf T.block c)
  have HT := Lib.hid (show Table w own kt t a T from ⟨mb, clock, Ln, hT1⟩)
  have HK := Lib.hid hK
  have HC := Lib.hid hc
  have HH := Lib.hid h0
  have HTC := Lib.hid h1
  clear hA hT1 hX hK hc h0 h1
  go_enter Try.func25, Try.ntmps25
  go_wp2_with fail
  refine wp_region_plan2 [(true, 0, [1, 2, 3, 9, 10, 11, 12, 13, 14]), (true, 1, [2, 3, 9, 10, 11, 12, 13, 14]), (true, 2, [3, 9, 10, 11, 12, 13, 14]), (true, 3, [9, 10, 11, 12, 13, 14]), (true, 4, [5, 6, 7, 9, 10, 11, 12, 13, 14]), (true, 5, [6, 7, 9, 10, 11, 12, 13, 14]), (true, 6, [7, 9, 10, 11, 12, 13, 14]), (true, 7, [9, 10, 11, 12, 13, 14]), (true, 8, [9, 10, 11, 12, 13, 14]), (false, 9, []), (true, 10, [11, 12, 13, 14]), (true, 11, [13, 14]), (true, 12, [14]), (true, 13, [14]), (true, 14, [])] (by kernel_rfl) (by kernel_rfl) (fun _ _ _ d _ h => by cases d <;> exact h) ?_
  iterate 9 (refine plan_early rfl ?_; still_step; refine wpStill_nil ?_)
  refine plan_big rfl ?_
  go_wp2_with fail
  refine HL.out.mono ?_
  rintro e w2 ⟨rfl, own2, hE2, hA2⟩
  rw [HTC.out] at hA2
  have HE2 := Lib.hid (show Ext (fun c => c = ka ∨ c = K) w w2 own own2 from (Ext.refl.drew).trans (hE2.mono (by simp)))
  have hT2 := HT.out.ext ((Ext.refl (M := fun c => c = ka)).drew.trans hE2) (fun h => hat h.symm)
  rw [HH.out]
  clear hE2 HL t0 t1 t2 t3 t4
  go_wp2_with fail
  iterate 5 (refine plan_early rfl ?_; still_step; refine wpStill_nil ?_)
  refine plan_nil ?_
  go_wp2_with fail
  go_loopg [5, 6] l.length (fun g ov xv wr => ListInv w own ka kt t a K V T l g ov xv wr)
  case atStart => exact ⟨own2, [], l, rfl, rfl, rfl, HC.out, Row.nil _ _ _ _ _, hA2, hT2, HE2.out⟩
  case round =>
    clear hA2 hT2 HE2
    obtain ⟨own3, done, rest, hdr, rfl, rfl, hch, hr, hA, hT, hE⟩ := hrel
    have HE := Lib.hid hE
    have HDR := Lib.hid hdr
    have hdl : done.length + rest.length = l.length := by rw [hdr, List.length_append]
    clear hE hdr
    cases rest with
    | nil =>
      go_wp2_with fail
      go_ret
      have hd : l = done := by rw [HDR.out, List.append_nil]
      obtain ⟨own4, q1, q2, q3⟩ := list_end (L := L) HK.out hka HE.out hr hA
      exact ⟨_, own4, rfl, by rw [hd]; exact q1, q2, q3⟩
    | cons x rest =>
      obtain ⟨hx, hfx, hch2⟩ := hch
      obtain ⟨v1, v2, v3⟩ := AV.val_one hfx
      have hx2 : hd (x :: rest) = x := rfl
      have hdn : done.length ≤ 7000000000000 := by omega
      rw [hx2]
      go_wp2_with (at_builtin; refine wpList_append_irow rfl _ _ rfl _ rfl hr hdn rfl (by simp) ?_; intro v4 wa owna hra hEa; obtain ⟨mbA, cA, LA, hTA⟩ := hT.ext hEa (by omega); obtain ⟨t0, t1, t2, t3, t4⟩ := five_t hTA.root)
      have hAa := hA.ext hEa (by omega)
      have HEa := Lib.hid (HE.out.trans (hEa.mono (M' := fun c => c = ka ∨ c = K) (by simp)))
      have hTT : Table wa owna kt t a T := ⟨mbA, cA, LA, hTA⟩
      clear hA hT hr hEa HE hTA
      refine (Load_any hAa hf x 0).mono ?_
      rintro e w5 ⟨rfl, own5, hE5, hA5⟩
      rw [v3] at hA5
      have hT5 := hTT.ext hE5 (fun h => hat h.symm)
      have hr5 := hra.ext hE5 (by omega)
      have HE5 := Lib.hid (HEa.out.trans (hE5.mono (M' := fun c => c = ka ∨ c = K) (by simp)))
      rw [v1]
      clear hAa HEa hTT hra hE5 t0 t1 t2 t3 t4
      go_wp2_with fail
      go_roundg rest.length
      case measure => simp
      case rel => exact ⟨own5, done ++ [x], rest, by rw [HDR.out]; simp, rfl, rfl, hch2, by rw [List.length_append]; exact hr5, hA5, hT5, HE5.out⟩
end
end Go.Proofs.Ytkfinhakhhiabaa

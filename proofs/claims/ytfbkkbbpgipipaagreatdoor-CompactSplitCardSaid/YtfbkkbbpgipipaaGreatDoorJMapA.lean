/- The index of package segment: add. Conditions: sizes. -/
import Derived.Test.YtfbkkbbpgipipaaGreatDoorJGoodO
import Derived.Shelf.Strings.Builder1
import Derived.Shelf.Strings.Builder2
import Derived.Shelf.Strings.OnBuilder
import Derived.Shelf.Strings.BuilderF
import Derived.Shelf.Strings.BuilderK
import Derived.Shelf.Strings.Builder2Cap
import Derived.Shelf.Sort.Plain
import Derived.Shelf.Strings.BuilderCap
import Derived.Shelf.Slices.CompactS
import Derived.Shelf.Slices.In.SortNone
import Derived.Test.YtfbkkbbpgipipaaGreatDoorProg
import Derived.Test.YtfbkkbbpgipipaaGreatDoorJRWords
import Derived.Test.YtfbkkbbpgipipaaGreatDoorJEChk0
namespace Go.Proofs.YtfbkkbbpgipipaaGreatDoor
open Go.RowKit
set_option linter.unusedVariables false
set_option linter.unusedSimpArgs false

theorem intInfoS : (Tryz.prog.info? 3).map (fun i => (i.zero, i.size, i.bytes)) = some (some (.int .i64 0), 1, 8) := by kernel_rfl
/-- only block b, rows from it on, and new blocks have turned -/
def FrM (b : Nat) (w w' : World) : Prop := ∀ (a : World) (row : Option Nat), a.heap.size ≤ b → a.grownBy w row → a.grownBy w' row
theorem FrM.refl (b : Nat) (w : World) : FrM b w w := fun _ _ _ h => h
theorem FrM.trans {b : Nat} {w w' w'' : World} (h : FrM b w w') (k : FrM b w' w'') : FrM b w w'' := fun a row ha hg => k a row ha (h a row ha hg)
theorem FrM.of {b : Nat} {w w' : World} (h : w.grownBy w' none) : FrM b w w' := fun a row _ hg => only_trans hg (only_of_none h _)
/-- rows of other elements than integers stay -/
def KeepNI (b : Nat) (w w' : World) : Prop := ∀ (q : Nat) (cs : Array Value) (t : TypeId) (fz : Nat × Nat), q ≠ b → w.heap[q]? = some (.cells cs t fz) → t ≠ 3 → w'.heap[q]? = w.heap[q]?
theorem own_keepNI {w w' : World} {b base e size n : Nat} {v : Value} {xs : List Value} (h : w.ownsRow base e size v n xs) (hk : KeepNI b w w') (hb : b < base) (he : e ≠ 3) : w'.ownsRow base e size v n xs := by
  obtain ⟨h1, h2⟩ := h
  refine ⟨h1, h2.imp id (fun ⟨g, cap, cur, q1, q2, q3, q4⟩ => ⟨g, cap, cur, q1, q2, (hk g cur e (0, 0) (by omega) q3 he).trans q3, q4⟩)⟩
def AddP (b base n : Nat) (f : ByteArray → List Int) (s : ByteArray) (id : Int) (w : World) (e : Ending) (w' : World) : Prop :=
  e = .returned (.tuple #[]) ∧ SM w' b base (n + 1) (moreS f s id) ∧ FrM b w w' ∧ w.heap.size ≤ w'.heap.size ∧ KeepNI b w w'
set_option maxHeartbeats 2000000 in
set_option maxRecDepth 100000 in
theorem add_row {b base n : Nat} {f : ByteArray → List Int} (s : ByteArray) (id : Int) (w : World) (h : SM w b base n f) (hs : SKey s) (hb : base ≤ w.heap.size) (hbb : b < base) (hl : (f s).length ≤ 1000000) :
    Calls Tryz.prog 52 #[.map (some b), .string s, .int .i64 id] w (AddP b base n f s id w) := by
  have H := Lib.hid h
  have HS := Lib.hid hs
  clear h hs
  go_enter Tryz.func52, Tryz.ntmps52
  go_wp2_with (first
    | (refine wpList_lookS rfl _ _ rfl rfl s rfl H.out HS.out ?_; intro Av cv hov hback; have HOV := Lib.hid hov; have BK := Lib.hid hback; clear hov hback)
    | (refine wpList_append1 rfl _ _ 86 rfl base Tryz.underlying86 intInfoS rfl (by decide) (v := .slice Av (f s).length cv) (by rfl) (w0 := w) (cs := #[.int .i64 id]) HOV.out (by rfl) rfl (by simp [Value.oneCell']) (by decide) (by omega) (by omega) ?_; intro v2 w2 hown2 hg2 hob2; have HO2 := Lib.hid hown2; have HG2 := Lib.hid hg2; have HB2 := Lib.hid hob2; clear hown2 hg2 hob2)
    | (refine wpList_updS (v' := v2) rfl _ _ _ rfl rfl rfl rfl BK.out id HG2.out (by simpa using HO2.out) (by rcases HB2.out with h | h; exact .inl h; exact .inr ⟨_, h, by omega⟩) ?_; intro w4 hm4 hg4; have HM4 := Lib.hid hm4; have HG4 := Lib.hid hg4; clear hm4 hg4))
  exact bodyPost_ret (v := .tuple #[]) (by simp [results, Tryz.results52, go_sem]) rfl ⟨rfl, HM4.out, fun a row ha hg => only_fresh (only_own hg HG2.out HOV.out (by omega)) HG4.out ha, Nat.le_trans HG2.out.size HG4.out.size, fun q cs t fz hq hc ht => by
    have hlt := (Array.getElem?_eq_some_iff.1 hc).1
    have hne : some q ≠ (Value.slice Av (f s).length cv).ownBlock := fun e => by
      rcases HOV.out.2 with ⟨h1, _⟩ | ⟨g, cap, cur, h1, _, h2, _⟩
      · rw [h1] at e; simp [Value.ownBlock] at e
      · rw [h1] at e
        have : q = g := by simpa [Value.ownBlock] using e
        rw [this, h2] at hc
        injection hc with hc
        injection hc with h3 h4
        exact ht h4.symm
    have h5 := HG2.out.block q hlt hne
    exact (HG4.out.block q (Nat.lt_of_lt_of_le hlt HG2.out.size) (fun e => hq (by injection e))).trans h5⟩
end Go.Proofs.YtfbkkbbpgipipaaGreatDoor

namespace Go.Proofs
open Go.Shelf
def Tryz.lays169_ren : Go.Shelf.Ren := ⟨fun | 169 => 80 | n => n, fun | 70 => 103 | 9 => 9 | 0 => 0 | 72 => 105 | 37 => 22 | 127 => 127 | 3 => 3 | 5 => 5 | n => n, fun | n => n⟩
theorem Tryz.lays169 : Go.Proofs.Lays.n169 Tryz.prog Tryz.lays169_ren := {
  mixed := by kernel_rfl
  f169 := Tryz.func80.trans (congrArg some (by kernel_rfl))
  t0 := Tryz.underlying0
  a0 := Tryz.isAgg0
  z0 := Tryz.sizeOf0
  v0 := Tryz.zeroValue0
  t3 := Tryz.underlying3
  a3 := Tryz.isAgg3
  z3 := Tryz.sizeOf3
  v3 := Tryz.zeroValue3
  t9 := Tryz.underlying9
  a9 := Tryz.isAgg9
  z9 := Tryz.sizeOf9
  v9 := Tryz.zeroValue9
  t37 := Tryz.underlying22
  a37 := Tryz.isAgg22
  z37 := Tryz.sizeOf22
  v37 := Tryz.zeroValue22
  t70 := Tryz.underlying103
  a70 := Tryz.isAgg103
  z70 := Tryz.sizeOf103
  v70 := Tryz.zeroValue103
  t72 := Tryz.underlying105
  a72 := Tryz.isAgg105
  z72 := Tryz.sizeOf105
  v72 := Tryz.zeroValue105
  t127 := Tryz.underlying127
  a127 := Tryz.isAgg127
  z127 := Tryz.sizeOf127
  v127 := Tryz.zeroValue127 }
theorem Tryz.Builder_Extra_169 : Builder.Extra Tryz.prog Tryz.lays169_ren := {
  sizeBuilder := by kernel_rfl
  liesBuilder := by kernel_rfl
  t5 := Tryz.underlying5
  a5 := Tryz.isAgg5
  z5 := Tryz.sizeOf5
  v5 := Tryz.zeroValue5
  infoByte := by kernel_rfl
  cellsByte := by kernel_rfl
  sizeByte := by kernel_rfl
  neB5 := by decide }
open Go.RowKit in
/-- (*strings.Builder).String: "String returns the accumulated string.": OF A BUILDER THAT HOLDS AT LEAST ONE BYTE. ✋ THE MODEL FREEZES THOSE BYTES IN THE BUFFER (unsafe.String): a later write INTO them ends the model's run without an answer; a later append BEHIND them goes on. The statement's order of evaluation is drawn: one draw. (LAID: no walk: one application.) -/
theorem Tryz.Builder_String (B b : Nat) (l : List UInt8) (w : World) (h : Lib.IsBuilder 105 5 B b (Lib.byteCells l) w) (h0 : l ≠ []) :
    Calls Tryz.prog 80 #[.pointer (some ⟨b, 0, none⟩)] w fun e w' => e = .returned (.string ⟨l.toArray⟩) ∧ Below B w w' := Any.Builder_String Tryz.lays169 Tryz.Builder_Extra_169 B b l w h h0
open Go.RowKit in
/-- (*strings.Builder).String OF A BUILDER THAT HOLDS NO BYTE: the empty string. (Its buffer is nil, or a row of which it has taken nothing yet; where that row has NO capacity the model lays one new block for unsafe.SliceData's 'some address'.) One draw. (LAID: no walk: one application.) -/
theorem Tryz.Builder_String_empty (B b : Nat) (w : World) (h : Lib.IsBuilder 105 5 B b [] w) (hBw : B ≤ w.heap.size) :
    Calls Tryz.prog 80 #[.pointer (some ⟨b, 0, none⟩)] w fun e w' => e = .returned (.string ⟨#[]⟩) ∧ Below B w w' := Any.Builder_String_empty Tryz.lays169 Tryz.Builder_Extra_169 B b w h hBw
open Go.RowKit in
/-- (*strings.Builder).String: "String returns the accumulated string.": WHATEVER THE BUILDER HOLDS. (LAID: no walk: one application.) -/
theorem Tryz.Builder_String_any (B b : Nat) (l : List UInt8) (w : World) (h : Lib.IsBuilder 105 5 B b (Lib.byteCells l) w) (hBw : B ≤ w.heap.size) :
    Calls Tryz.prog 80 #[.pointer (some ⟨b, 0, none⟩)] w fun e w' => e = .returned (.string ⟨l.toArray⟩) ∧ Below B w w' := Any.Builder_String_any Tryz.lays169 Tryz.Builder_Extra_169 B b l w h hBw
def Tryz.lays241_ren : Go.Shelf.Ren := ⟨fun | 241 => 97 | 277 => 106 | n => n, fun | 70 => 103 | 3 => 3 | 0 => 0 | 72 => 105 | 37 => 22 | 5 => 5 | n => n, fun | n => n⟩
theorem Tryz.lays241 : Go.Proofs.Lays.n241 Tryz.prog Tryz.lays241_ren := {
  mixed := by kernel_rfl
  f241 := Tryz.func97.trans (congrArg some (by kernel_rfl))
  f277 := Tryz.func106.trans (congrArg some (by kernel_rfl))
  t0 := Tryz.underlying0
  a0 := Tryz.isAgg0
  z0 := Tryz.sizeOf0
  v0 := Tryz.zeroValue0
  t3 := Tryz.underlying3
  a3 := Tryz.isAgg3
  z3 := Tryz.sizeOf3
  v3 := Tryz.zeroValue3
  t37 := Tryz.underlying22
  a37 := Tryz.isAgg22
  z37 := Tryz.sizeOf22
  v37 := Tryz.zeroValue22
  t70 := Tryz.underlying103
  a70 := Tryz.isAgg103
  z70 := Tryz.sizeOf103
  v70 := Tryz.zeroValue103
  t72 := Tryz.underlying105
  a72 := Tryz.isAgg105
  z72 := Tryz.sizeOf105
  v72 := Tryz.zeroValue105 }
theorem Tryz.Builder_Extra_241 : Builder.Extra Tryz.prog Tryz.lays241_ren := {
  sizeBuilder := by kernel_rfl
  liesBuilder := by kernel_rfl
  t5 := Tryz.underlying5
  a5 := Tryz.isAgg5
  z5 := Tryz.sizeOf5
  v5 := Tryz.zeroValue5
  infoByte := by kernel_rfl
  cellsByte := by kernel_rfl
  sizeByte := by kernel_rfl
  neB5 := by decide }
open Go.RowKit in
/-- (*strings.Builder).grow (no doc but "grow copies the buffer to a new, larger buffer so that there are at least n bytes of capacity beyond len(b.buf)."): AT A BUILDER WITHOUT A BUFFER: a new row of whatever bytes for its buffer, none of them its own yet. Three draws. (LAID: no walk: one application.) -/
theorem Tryz.Builder_grow_fresh (B b n : Nat) (w : World) (hB : B ≤ b) (hbk : w.heap[b]? = some (.cells #[.pointer (some ⟨b, 0, none⟩), .slice none 0 0] 105 (0, 0))) (hBw : B ≤ w.heap.size) (hn : n ≤ 281474976710656) :
    Calls Tryz.prog 97 #[.pointer (some ⟨b, 0, none⟩), .int .i64 n] w fun e w' => e = .returned (.tuple #[]) ∧ (Lib.BuilderAt 105 5 B b (.pointer (some ⟨b, 0, none⟩)) [] w' ∧ Below B w w') := Any.Builder_grow_fresh Tryz.lays241 Tryz.Builder_Extra_241 B b n w hB hbk hBw hn
def Tryz.lays165_ren : Go.Shelf.Ren := ⟨fun | 165 => 78 | 240 => 96 | 241 => 97 | 276 => 105 | 277 => 106 | n => n, fun | 70 => 103 | 3 => 3 | 0 => 0 | 4 => 4 | 9 => 9 | 20 => 20 | 72 => 105 | 37 => 22 | 164 => 134 | 5 => 5 | n => n, fun | n => n⟩
theorem Tryz.lays165 : Go.Proofs.Lays.n165 Tryz.prog Tryz.lays165_ren := {
  mixed := by kernel_rfl
  f165 := Tryz.func78.trans (congrArg some (by kernel_rfl))
  f240 := Tryz.func96.trans (congrArg some (by kernel_rfl))
  f241 := Tryz.func97.trans (congrArg some (by kernel_rfl))
  f276 := Tryz.func105.trans (congrArg some (by kernel_rfl))
  f277 := Tryz.func106.trans (congrArg some (by kernel_rfl))
  t0 := Tryz.underlying0
  a0 := Tryz.isAgg0
  z0 := Tryz.sizeOf0
  v0 := Tryz.zeroValue0
  t3 := Tryz.underlying3
  a3 := Tryz.isAgg3
  z3 := Tryz.sizeOf3
  v3 := Tryz.zeroValue3
  t4 := Tryz.underlying4
  a4 := Tryz.isAgg4
  z4 := Tryz.sizeOf4
  v4 := Tryz.zeroValue4
  t9 := Tryz.underlying9
  a9 := Tryz.isAgg9
  z9 := Tryz.sizeOf9
  v9 := Tryz.zeroValue9
  t20 := Tryz.underlying20
  a20 := Tryz.isAgg20
  z20 := Tryz.sizeOf20
  v20 := Tryz.zeroValue20
  t37 := Tryz.underlying22
  a37 := Tryz.isAgg22
  z37 := Tryz.sizeOf22
  v37 := Tryz.zeroValue22
  t70 := Tryz.underlying103
  a70 := Tryz.isAgg103
  z70 := Tryz.sizeOf103
  v70 := Tryz.zeroValue103
  t72 := Tryz.underlying105
  a72 := Tryz.isAgg105
  z72 := Tryz.sizeOf105
  v72 := Tryz.zeroValue105
  t164 := Tryz.underlying134
  a164 := Tryz.isAgg134
  z164 := Tryz.sizeOf134
  v164 := Tryz.zeroValue134 }
theorem Tryz.Builder_Extra_165 : Builder.Extra Tryz.prog Tryz.lays165_ren := {
  sizeBuilder := by kernel_rfl
  liesBuilder := by kernel_rfl
  t5 := Tryz.underlying5
  a5 := Tryz.isAgg5
  z5 := Tryz.sizeOf5
  v5 := Tryz.zeroValue5
  infoByte := by kernel_rfl
  cellsByte := by kernel_rfl
  sizeByte := by kernel_rfl
  neB5 := by decide }
open Go.RowKit in
/-- (*strings.Builder).Grow AT A BUILDER THAT HAS NOT BEEN WRITTEN ('var b strings.Builder; b.Grow(n)'): "Grow grows b's capacity, if necessary, to guarantee space for another n bytes.": it holds no byte behind it as before it. (LAID: no walk: one application.) -/
theorem Tryz.Builder_Grow_fresh (B b n : Nat) (w : World) (hB : B ≤ b) (hbk : w.heap[b]? = some (.cells #[.pointer none, .slice none 0 0] 105 (0, 0))) (hBw : B ≤ w.heap.size) (hn : n ≤ 281474976710656) :
    Calls Tryz.prog 78 #[.pointer (some ⟨b, 0, none⟩), .int .i64 n] w fun e w' => e = .returned (.tuple #[]) ∧ (Lib.BuilderAt 105 5 B b (.pointer (some ⟨b, 0, none⟩)) [] w' ∧ Below B w w') := Any.Builder_Grow_fresh Tryz.lays165 Tryz.Builder_Extra_165 B b n w hB hbk hBw hn
def Tryz.lays156_ren : Go.Shelf.Ren := ⟨fun | 156 => 69 | 165 => 78 | 166 => 79 | 169 => 80 | 240 => 96 | 241 => 97 | 276 => 105 | 277 => 106 | n => n, fun | 31 => 56 | 9 => 9 | 3 => 3 | 4 => 4 | 0 => 0 | 20 => 20 | 72 => 105 | 76 => 109 | 70 => 103 | 37 => 22 | 75 => 108 | 127 => 127 | 164 => 134 | 5 => 5 | 80 => 73 | n => n, fun | n => n⟩
theorem Tryz.lays156 : Go.Proofs.Lays.n156 Tryz.prog Tryz.lays156_ren := {
  mixed := by kernel_rfl
  f156 := Tryz.func69.trans (congrArg some (by kernel_rfl))
  f165 := Tryz.func78.trans (congrArg some (by kernel_rfl))
  f166 := Tryz.func79.trans (congrArg some (by kernel_rfl))
  f169 := Tryz.func80.trans (congrArg some (by kernel_rfl))
  f240 := Tryz.func96.trans (congrArg some (by kernel_rfl))
  f241 := Tryz.func97.trans (congrArg some (by kernel_rfl))
  f276 := Tryz.func105.trans (congrArg some (by kernel_rfl))
  f277 := Tryz.func106.trans (congrArg some (by kernel_rfl))
  t0 := Tryz.underlying0
  a0 := Tryz.isAgg0
  z0 := Tryz.sizeOf0
  v0 := Tryz.zeroValue0
  t3 := Tryz.underlying3
  a3 := Tryz.isAgg3
  z3 := Tryz.sizeOf3
  v3 := Tryz.zeroValue3
  t4 := Tryz.underlying4
  a4 := Tryz.isAgg4
  z4 := Tryz.sizeOf4
  v4 := Tryz.zeroValue4
  t9 := Tryz.underlying9
  a9 := Tryz.isAgg9
  z9 := Tryz.sizeOf9
  v9 := Tryz.zeroValue9
  t20 := Tryz.underlying20
  a20 := Tryz.isAgg20
  z20 := Tryz.sizeOf20
  v20 := Tryz.zeroValue20
  t31 := Tryz.underlying56
  a31 := Tryz.isAgg56
  z31 := Tryz.sizeOf56
  v31 := Tryz.zeroValue56
  t37 := Tryz.underlying22
  a37 := Tryz.isAgg22
  z37 := Tryz.sizeOf22
  v37 := Tryz.zeroValue22
  t70 := Tryz.underlying103
  a70 := Tryz.isAgg103
  z70 := Tryz.sizeOf103
  v70 := Tryz.zeroValue103
  t72 := Tryz.underlying105
  a72 := Tryz.isAgg105
  z72 := Tryz.sizeOf105
  v72 := Tryz.zeroValue105
  t75 := Tryz.underlying108
  a75 := Tryz.isAgg108
  z75 := Tryz.sizeOf108
  v75 := Tryz.zeroValue108
  t76 := Tryz.underlying109
  a76 := Tryz.isAgg109
  z76 := Tryz.sizeOf109
  v76 := Tryz.zeroValue109
  t127 := Tryz.underlying127
  a127 := Tryz.isAgg127
  z127 := Tryz.sizeOf127
  v127 := Tryz.zeroValue127
  t164 := Tryz.underlying134
  a164 := Tryz.isAgg134
  z164 := Tryz.sizeOf134
  v164 := Tryz.zeroValue134 }
theorem Tryz.Builder_Extra_156 : Builder.Extra Tryz.prog Tryz.lays156_ren := {
  sizeBuilder := by kernel_rfl
  liesBuilder := by kernel_rfl
  t5 := Tryz.underlying5
  a5 := Tryz.isAgg5
  z5 := Tryz.sizeOf5
  v5 := Tryz.zeroValue5
  infoByte := by kernel_rfl
  cellsByte := by kernel_rfl
  sizeByte := by kernel_rfl
  neB5 := by decide }
open Go.RowKit in
/-- No element: the empty string; the world is as it was. (Whatever the slice's address and capacity: a nil slice too.) (LAID: no walk: one application.) -/
theorem Tryz.strings_Join_none (a : Option Addr) (c : Nat) (sep : ByteArray) (w : World) :
    Calls Tryz.prog 69 #[.slice a 0 c, .string sep] w fun e w' => e = .returned (.string ⟨#[]⟩) ∧ w' = w := Any.strings_Join_none Tryz.lays156 Tryz.Builder_Extra_156 a c sep w
open Go.RowKit in
/-- strings.Join: "Join concatenates the elements of its first argument to create a single string. The separator string sep is placed between elements in the resulting string.": HOWEVER MANY ELEMENTS. Below the heap's end the world is as it was. (LAID: no walk: one application.) -/
theorem Tryz.strings_Join (bk o c : Nat) (xs : List ByteArray) (sep : ByteArray) (w : World) (hcells : ∀ (j : Nat) x, xs[j]? = some x → w.cell? ⟨bk, o + j, none⟩ = some (.string x)) (hbk : bk < w.heap.size) (hN : xs.length ≤ 140737488355328) (hcap : xs.length ≤ c) (hlen : (Lib.join (xs.map (·.data.toList)) sep.data.toList).length ≤ 140737488355328) :
    Calls Tryz.prog 69 #[.slice (some ⟨bk, o, none⟩) xs.length c, .string sep] w fun e w' => e = .returned (.string ⟨(Lib.join (xs.map (·.data.toList)) sep.data.toList).toArray⟩) ∧ Below w.heap.size w w' := Any.strings_Join Tryz.lays156 Tryz.Builder_Extra_156 bk o c xs sep w hcells hbk hN hcap hlen
open Go.RowKit in
/-- (*strings.Builder).String: "String returns the accumulated string.": OF A BUILDER THAT HOLDS AT LEAST ONE BYTE. ✋ THE MODEL FREEZES THOSE BYTES IN THE BUFFER (unsafe.String): a later write INTO them ends the model's run without an answer; a later append BEHIND them goes on. The statement's order of evaluation is drawn: one draw. THE FORM '_f': IT SAYS BESIDES THAT THE BUILDER IS A BUILDER STILL ('Lib.IsBuilderF', the same bytes): SO IT CAN BE WRITTEN ON: 'b.WriteString(b.String()[:k])'. (LAID: no walk: one application.) -/
theorem Tryz.Builder_String_f (B b : Nat) (l : List UInt8) (w : World) (h : Lib.IsBuilderF 105 5 B b (Lib.byteCells l) w) (h0 : l ≠ []) :
    Calls Tryz.prog 80 #[.pointer (some ⟨b, 0, none⟩)] w fun e w' => e = .returned (.string ⟨l.toArray⟩) ∧ (Lib.IsBuilderF 105 5 B b (Lib.byteCells l) w' ∧ Below B w w') := Any.Builder_String_f Tryz.lays169 Tryz.Builder_Extra_169 B b l w h h0
open Go.RowKit in
/-- (*strings.Builder).String OF A BUILDER THAT HOLDS NO BYTE: the empty string; THE FORM '_f': a builder still. (LAID: no walk: one application.) -/
theorem Tryz.Builder_String_empty_f (B b : Nat) (w : World) (h : Lib.IsBuilderF 105 5 B b [] w) (hBw : B ≤ w.heap.size) :
    Calls Tryz.prog 80 #[.pointer (some ⟨b, 0, none⟩)] w fun e w' => e = .returned (.string ⟨#[]⟩) ∧ (Lib.IsBuilderF 105 5 B b [] w' ∧ Below B w w') := Any.Builder_String_empty_f Tryz.lays169 Tryz.Builder_Extra_169 B b w h hBw
open Go.RowKit in
/-- (*strings.Builder).String: "String returns the accumulated string.": WHATEVER THE BUILDER HOLDS; THE FORM '_f': OF A BUILDER THAT MAY HAVE BEEN READ BEFORE; AND IT IS A BUILDER STILL, holding the same bytes: it can be written on. (LAID: no walk: one application.) -/
theorem Tryz.Builder_String_any_f (B b : Nat) (l : List UInt8) (w : World) (h : Lib.IsBuilderF 105 5 B b (Lib.byteCells l) w) (hBw : B ≤ w.heap.size) :
    Calls Tryz.prog 80 #[.pointer (some ⟨b, 0, none⟩)] w fun e w' => e = .returned (.string ⟨l.toArray⟩) ∧ (Lib.IsBuilderF 105 5 B b (Lib.byteCells l) w' ∧ Below B w w') := Any.Builder_String_any_f Tryz.lays169 Tryz.Builder_Extra_169 B b l w h hBw
open Go.RowKit in
/-- (*strings.Builder).String: "String returns the accumulated string.": OF A BUILDER THAT HOLDS AT LEAST ONE BYTE. ✋ THE MODEL FREEZES THOSE BYTES IN THE BUFFER (unsafe.String): a later write INTO them ends the model's run without an answer; a later append BEHIND them goes on. The statement's order of evaluation is drawn: one draw. THE FORM '_k': OVER 'Lib.IsBuilderF' (a builder that 'String()' may have read), AND WITH THE FRAME THAT REACHES ABOVE THE BUILDER: 'Lib.OthersKept': every block that is not b and is no row of uint8's stands as it stood: the iterator of a range among them. (LAID: no walk: one application.) -/
theorem Tryz.Builder_String_k (B b : Nat) (l : List UInt8) (w : World) (h : Lib.IsBuilderF 105 5 B b (Lib.byteCells l) w) (h0 : l ≠ []) :
    Calls Tryz.prog 80 #[.pointer (some ⟨b, 0, none⟩)] w fun e w' => e = .returned (.string ⟨l.toArray⟩) ∧ (Lib.IsBuilderF 105 5 B b (Lib.byteCells l) w' ∧ Below B w w' ∧ Lib.OthersKept 5 (some b) w w') := Any.Builder_String_k Tryz.lays169 Tryz.Builder_Extra_169 B b l w h h0
open Go.RowKit in
/-- (*strings.Builder).String OF A BUILDER THAT HOLDS NO BYTE: the empty string; THE FORM '_k': OVER 'Lib.IsBuilderF' (a builder that 'String()' may have read), AND WITH THE FRAME THAT REACHES ABOVE THE BUILDER: 'Lib.OthersKept': every block that is not b and is no row of uint8's stands as it stood: the iterator of a range among them. (LAID: no walk: one application.) -/
theorem Tryz.Builder_String_empty_k (B b : Nat) (w : World) (h : Lib.IsBuilderF 105 5 B b [] w) (hBw : B ≤ w.heap.size) :
    Calls Tryz.prog 80 #[.pointer (some ⟨b, 0, none⟩)] w fun e w' => e = .returned (.string ⟨#[]⟩) ∧ (Lib.IsBuilderF 105 5 B b [] w' ∧ Below B w w' ∧ Lib.OthersKept 5 (some b) w w') := Any.Builder_String_empty_k Tryz.lays169 Tryz.Builder_Extra_169 B b w h hBw
open Go.RowKit in
/-- (*strings.Builder).String: "String returns the accumulated string.": WHATEVER THE BUILDER HOLDS; THE FORM '_k': OVER 'Lib.IsBuilderF' (a builder that 'String()' may have read), AND WITH THE FRAME THAT REACHES ABOVE THE BUILDER: 'Lib.OthersKept': every block that is not b and is no row of uint8's stands as it stood: the iterator of a range among them. (LAID: no walk: one application.) -/
theorem Tryz.Builder_String_any_k (B b : Nat) (l : List UInt8) (w : World) (h : Lib.IsBuilderF 105 5 B b (Lib.byteCells l) w) (hBw : B ≤ w.heap.size) :
    Calls Tryz.prog 80 #[.pointer (some ⟨b, 0, none⟩)] w fun e w' => e = .returned (.string ⟨l.toArray⟩) ∧ (Lib.IsBuilderF 105 5 B b (Lib.byteCells l) w' ∧ Below B w w' ∧ Lib.OthersKept 5 (some b) w w') := Any.Builder_String_any_k Tryz.lays169 Tryz.Builder_Extra_169 B b l w h hBw
open Go.RowKit in
/-- (*strings.Builder).grow (no doc but "grow copies the buffer to a new, larger buffer so that there are at least n bytes of capacity beyond len(b.buf)."): AT A BUILDER WITHOUT A BUFFER: a new row of whatever bytes for its buffer, none of them its own yet. Three draws. (LAID: no walk: one application.) -/
theorem Tryz.Builder_grow_fresh_cap (B b n : Nat) (w : World) (hB : B ≤ b) (hbk : w.heap[b]? = some (.cells #[.pointer (some ⟨b, 0, none⟩), .slice none 0 0] 105 (0, 0))) (hBw : B ≤ w.heap.size) (hn : n ≤ 281474976710656) :
    Calls Tryz.prog 97 #[.pointer (some ⟨b, 0, none⟩), .int .i64 n] w fun e w' => e = .returned (.tuple #[]) ∧ (Lib.BuilderAt 105 5 B b (.pointer (some ⟨b, 0, none⟩)) [] w' ∧ Below B w w') ∧ ∃ p cap, w'.cell? ⟨b, 1, none⟩ = some (.slice p 0 cap) ∧ n ≤ cap := Any.Builder_grow_fresh_cap Tryz.lays241 Tryz.Builder_Extra_241 B b n w hB hbk hBw hn
open Go.RowKit in
/-- (*strings.Builder).Grow AT A BUILDER THAT HAS NOT BEEN WRITTEN ('var b strings.Builder; b.Grow(n)'): "Grow grows b's capacity, if necessary, to guarantee space for another n bytes.": it holds no byte behind it as before it. (LAID: no walk: one application.) -/
theorem Tryz.Builder_Grow_fresh_cap (B b n : Nat) (w : World) (hB : B ≤ b) (hbk : w.heap[b]? = some (.cells #[.pointer none, .slice none 0 0] 105 (0, 0))) (hBw : B ≤ w.heap.size) (hn : n ≤ 281474976710656) :
    Calls Tryz.prog 78 #[.pointer (some ⟨b, 0, none⟩), .int .i64 n] w fun e w' => e = .returned (.tuple #[]) ∧ (Lib.BuilderAt 105 5 B b (.pointer (some ⟨b, 0, none⟩)) [] w' ∧ Below B w w') ∧ ∃ p cap, w'.cell? ⟨b, 1, none⟩ = some (.slice p 0 cap) ∧ n ≤ cap := Any.Builder_Grow_fresh_cap Tryz.lays165 Tryz.Builder_Extra_165 B b n w hB hbk hBw hn
def Tryz.lays190_ren : Go.Shelf.Ren := ⟨fun | 190 => 67 | 125 => 77 | 258 => 76 | 128 => 94 | 129 => 95 | 302 => 85 | 303 => 86 | 304 => 87 | 305 => 88 | 306 => 89 | 307 => 90 | 308 => 91 | 309 => 92 | 310 => 93 | 333 => 99 | 329 => 100 | 330 => 101 | 334 => 102 | 335 => 103 | 336 => 104 | 344 => 108 | n => n, fun | 31 => 56 | 9 => 9 | 3 => 3 | 46 => 102 | 0 => 0 | 51 => 124 | 53 => 126 | 4 => 4 | 183 => 116 | 182 => 115 | 131 => 121 | 5 => 5 | 218 => 128 | 222 => 132 | 228 => 137 | 229 => 138 | n => n, fun | n => n⟩
theorem Tryz.lays190 : Go.Proofs.Lays.n190 Tryz.prog Tryz.lays190_ren := {
  mixed := by kernel_rfl
  f125 := Tryz.func77.trans (congrArg some (by kernel_rfl))
  f128 := Tryz.func94.trans (congrArg some (by kernel_rfl))
  f129 := Tryz.func95.trans (congrArg some (by kernel_rfl))
  f190 := Tryz.func67.trans (congrArg some (by kernel_rfl))
  f258 := Tryz.func76.trans (congrArg some (by kernel_rfl))
  f302 := Tryz.func85.trans (congrArg some (by kernel_rfl))
  f303 := Tryz.func86.trans (congrArg some (by kernel_rfl))
  f304 := Tryz.func87.trans (congrArg some (by kernel_rfl))
  f305 := Tryz.func88.trans (congrArg some (by kernel_rfl))
  f306 := Tryz.func89.trans (congrArg some (by kernel_rfl))
  f307 := Tryz.func90.trans (congrArg some (by kernel_rfl))
  f308 := Tryz.func91.trans (congrArg some (by kernel_rfl))
  f309 := Tryz.func92.trans (congrArg some (by kernel_rfl))
  f310 := Tryz.func93.trans (congrArg some (by kernel_rfl))
  f329 := Tryz.func100.trans (congrArg some (by kernel_rfl))
  f330 := Tryz.func101.trans (congrArg some (by kernel_rfl))
  f333 := Tryz.func99.trans (congrArg some (by kernel_rfl))
  f334 := Tryz.func102.trans (congrArg some (by kernel_rfl))
  f335 := Tryz.func103.trans (congrArg some (by kernel_rfl))
  f336 := Tryz.func104.trans (congrArg some (by kernel_rfl))
  f344 := Tryz.func108.trans (congrArg some (by kernel_rfl))
  t0 := Tryz.underlying0
  a0 := Tryz.isAgg0
  z0 := Tryz.sizeOf0
  v0 := Tryz.zeroValue0
  t3 := Tryz.underlying3
  a3 := Tryz.isAgg3
  z3 := Tryz.sizeOf3
  v3 := Tryz.zeroValue3
  t4 := Tryz.underlying4
  a4 := Tryz.isAgg4
  z4 := Tryz.sizeOf4
  v4 := Tryz.zeroValue4
  t5 := Tryz.underlying5
  a5 := Tryz.isAgg5
  z5 := Tryz.sizeOf5
  v5 := Tryz.zeroValue5
  t9 := Tryz.underlying9
  a9 := Tryz.isAgg9
  z9 := Tryz.sizeOf9
  v9 := Tryz.zeroValue9
  t31 := Tryz.underlying56
  a31 := Tryz.isAgg56
  z31 := Tryz.sizeOf56
  v31 := Tryz.zeroValue56
  t46 := Tryz.underlying102
  a46 := Tryz.isAgg102
  z46 := Tryz.sizeOf102
  v46 := Tryz.zeroValue102
  t51 := Tryz.underlying124
  a51 := Tryz.isAgg124
  z51 := Tryz.sizeOf124
  v51 := Tryz.zeroValue124
  t53 := Tryz.underlying126
  a53 := Tryz.isAgg126
  z53 := Tryz.sizeOf126
  v53 := Tryz.zeroValue126
  t131 := Tryz.underlying121
  a131 := Tryz.isAgg121
  z131 := Tryz.sizeOf121
  v131 := Tryz.zeroValue121
  t182 := Tryz.underlying115
  a182 := Tryz.isAgg115
  z182 := Tryz.sizeOf115
  v182 := Tryz.zeroValue115
  t183 := Tryz.underlying116
  a183 := Tryz.isAgg116
  z183 := Tryz.sizeOf116
  v183 := Tryz.zeroValue116
  t218 := Tryz.underlying128
  a218 := Tryz.isAgg128
  z218 := Tryz.sizeOf128
  v218 := Tryz.zeroValue128
  t222 := Tryz.underlying132
  a222 := Tryz.isAgg132
  z222 := Tryz.sizeOf132
  v222 := Tryz.zeroValue132
  t228 := Tryz.underlying137
  a228 := Tryz.isAgg137
  z228 := Tryz.sizeOf137
  v228 := Tryz.zeroValue137
  t229 := Tryz.underlying138
  a229 := Tryz.isAgg138
  z229 := Tryz.sizeOf138
  v229 := Tryz.zeroValue138 }
open Go.Sort Go.RowKit in
theorem Tryz.slices_Sort_string (blk off cap : Nat) (ss : List (List UInt8)) (w : World) (hH : Holds encStr w blk off ss.toArray) (hblk : blk < w.heap.size) (hsz : ss.length < 4611686018427387904) :
    Calls Tryz.prog 67 #[.slice (some ⟨blk, off, none⟩) ss.length cap] w fun e w' =>
      e = .returned (.tuple #[]) ∧ ∃ n os, w' = grow (putRow encStr (Sort.ahead w n) blk off (ss.mergeSort fun x y => decide (x ≤ y)).toArray) os := Any.slices_Sort_string Tryz.lays190 blk off cap ss w hH hblk hsz
def Tryz.lays194_ren : Go.Shelf.Ren := ⟨fun | 194 => 68 | n => n, fun | 31 => 56 | 9 => 9 | 3 => 3 | 4 => 4 | 0 => 0 | n => n, fun | n => n⟩
theorem Tryz.lays194 : Go.Proofs.Lays.n194 Tryz.prog Tryz.lays194_ren := {
  mixed := by kernel_rfl
  f194 := Tryz.func68.trans (congrArg some (by kernel_rfl))
  t0 := Tryz.underlying0
  a0 := Tryz.isAgg0
  z0 := Tryz.sizeOf0
  v0 := Tryz.zeroValue0
  t3 := Tryz.underlying3
  a3 := Tryz.isAgg3
  z3 := Tryz.sizeOf3
  v3 := Tryz.zeroValue3
  t4 := Tryz.underlying4
  a4 := Tryz.isAgg4
  z4 := Tryz.sizeOf4
  v4 := Tryz.zeroValue4
  t9 := Tryz.underlying9
  a9 := Tryz.isAgg9
  z9 := Tryz.sizeOf9
  v9 := Tryz.zeroValue9
  t31 := Tryz.underlying56
  a31 := Tryz.isAgg56
  z31 := Tryz.sizeOf56
  v31 := Tryz.zeroValue56 }
open Go.RowKit Go.Lib Go.Sort in
/-- slices.Compact at []string, over an array: the library's two loops are walked. (LAID: no walk: one application.) -/
theorem Tryz.slices_Compact_string_arr (blk off cap : Nat) (d : Array (List UInt8)) (w : World) (hH : Holds encStr w blk off d) (hsz : d.size ≤ 9223372036854775807) (hcap : d.size ≤ cap) :
    Calls Tryz.prog 68 #[.slice (some ⟨blk, off, none⟩) d.size cap] w fun e w' => e = .returned (.slice (some ⟨blk, off, none⟩) (compactUpTo d d.size).length cap) ∧ ∃ q, w' = putRow encStr (Sort.ahead w q) blk off (compactUpTo d d.size ++ List.replicate (d.size - (compactUpTo d d.size).length) []).toArray := Any.slices_Compact_string_arr Tryz.lays194 blk off cap d w hH hsz hcap
open Go.RowKit Go.Lib Go.Sort in
/-- slices.Compact at []string: "Compact replaces consecutive runs of equal elements with a single copy. This is like the uniq command found on Unix. Compact modifies the contents of the slice s and returns the modified slice, which may have a smaller length. Compact zeroes the elements between the new length and the original length. The result preserves the nilness of s.": IT RETURNS THE SLICE CUT TO 'Lib.compact zs'; ITS CELLS HOLD 'Lib.compact zs', THEN ZERO VALUES up to the old length; all else is as it was, but for the count of draws. IN THE WORDS OF slices.Sort's CONTRACT ('Holds', 'putRow'): so the everyday 'slices.Sort(xs); xs = slices.Compact(xs)' goes from the one contract to the other. It asks 'zs.length ≤ cap' (every slice's: the reslicing 's[:k]' looks at it). Length 0, nil: '.._empty'. (LAID: no walk: one application.) -/
theorem Tryz.slices_Compact_string (blk off cap : Nat) (zs : List (List UInt8)) (w : World) (hH : Holds encStr w blk off zs.toArray) (hsz : zs.length ≤ 9223372036854775807) (hcap : zs.length ≤ cap) :
    Calls Tryz.prog 68 #[.slice (some ⟨blk, off, none⟩) zs.length cap] w fun e w' => e = .returned (.slice (some ⟨blk, off, none⟩) (Lib.compact zs).length cap) ∧ ∃ q, w' = putRow encStr (Sort.ahead w q) blk off (Lib.compact zs ++ List.replicate (zs.length - (Lib.compact zs).length) []).toArray := Any.slices_Compact_string Tryz.lays194 blk off cap zs w hH hsz hcap
open Go.RowKit Go.Lib Go.Sort in
/-- The same at a slice of length 0, a nil one too: it comes back as it is. (LAID: no walk: one application.) -/
theorem Tryz.slices_Compact_string_empty (a : Option Addr) (cap : Nat) (w : World) :
    Calls Tryz.prog 68 #[.slice a 0 cap] w fun e w' => e = .returned (.slice a 0 cap) ∧ w' = w := Any.slices_Compact_string_empty Tryz.lays194 a cap w
open Go.RowKit Go.Sort in
/-- .. and plain. (LAID: no walk: one application.) -/
theorem Tryz.slices_Sort_string_none (p : Option Addr) (cap : Nat) (w : World) :
    Calls Tryz.prog 67 #[.slice p 0 cap] w fun e w' => e = .returned (.tuple #[]) ∧ w' = w := Any.slices_Sort_string_none Tryz.lays190 p cap w
end Go.Proofs

namespace Go.Proofs.YtfbkkbbpgipipaaGreatDoor
open Go.RowKit
set_option linter.unusedVariables false
set_option linter.unusedSimpArgs false

set_option maxHeartbeats 2000000 in
set_option maxRecDepth 100000 in
theorem text_any {S : Nat → Prop} (e : Ev) (w : World) (hs : e.Sub S w) (hl : e.lines.length ≤ 1000) (ht : ∀ l ∈ e.lines, l.text.size ≤ 100000) :
    Calls Tryz.prog 51 #[.agg e.cells.toArray] w (TextP w (textOf e.lines)) := by
  obtain ⟨xb, hxb⟩ : ∃ b, b = w.heap.size := ⟨_, rfl⟩
  obtain ⟨W1, hW1⟩ : ∃ W, W = w.alloc (.cells e.cells.toArray 35) := ⟨_, rfl⟩
  have hB1 : Blk W1 xb 35 e.cells.toArray := by rw [hW1, hxb]; exact Blk.new w _ _
  have g1 : w.grownBy W1 none := by rw [hW1]; exact only_alloc (only_refl _ _) _
  have G1 := Lib.hid g1
  have hsz1 := g1.size
  have HR := Lib.hid ((hs.1.mono (S' := (· < w.heap.size)) (fun b _ hlt => hlt)).grown g1 (by simp))
  have HT := Lib.hid ht
  have b4 := hB1.cell 4
  simp [Ev.cells] at b4
  have HW1 := Lib.hid hW1.symm
  have HXE := Lib.hid hxb.symm
  obtain ⟨ls, hls⟩ : ∃ ls, ls = e.lines := ⟨_, rfl⟩
  rw [← hls] at HR HT b4 hl ⊢
  clear hs ht hW1 hxb hB1 g1 hls
  go_enter Tryz.func51, Tryz.ntmps51
  go_upto_region 1 with fail
  rw [HW1.out, HXE.out]
  clear HW1 HXE
  go_wp2_with fail
  go_loopw [3, 9] (fun v i wr => ∃ k : Nat, k ≤ ls.length ∧ i = .int .i64 k ∧ wr.ownsRow W1.heap.size 9 1 v k ((ls.take k).map (fun l => .string l.text)) ∧ W1.grownBy wr none) (fun _ i _ => ls.length - (intOf i).toNat)
  case atStart => exact ⟨0, Nat.zero_le _, rfl, World.ownsRow_nil _ _ _ _, only_refl _ _⟩
  case round =>
    obtain ⟨k, hk, rfl, hO, hG⟩ := hrel
    have G := Lib.hid hG
    have hsz := hG.size
    obtain ⟨Ao, co, rfl, hoc, hom, -, hor⟩ := Rd.of_own hO (by decide)
    have OO := Lib.hid hO
    have RO := Lib.hid hor
    clear hO hG hor
    by_cases hlt : k < ls.length
    · obtain ⟨y, hy⟩ : ∃ y, ls[k]? = some y := ⟨_, List.getElem?_eq_getElem hlt⟩
      have hrr := HR.out.grown G.out (by simp)
      obtain ⟨b, o, ela, hbl, -, -⟩ := hrr (by rw [flat_len _ 3 LineD.cells_len]; omega)
      have d0 : wr.cell? ⟨b, o + k * 3, none⟩ = some (.int .i64 y.off) := by
        rw [ela] at hrr; exact hrr.flatAt LineD.cells_len hy 0 (by omega)
      have d1 : wr.cell? ⟨b, o + k * 3 + 1, none⟩ = some (.int .i64 y.len) := by
        rw [ela] at hrr; exact hrr.flatAt LineD.cells_len hy 1 (by omega)
      have d2 : wr.cell? ⟨b, o + k * 3 + 2, none⟩ = some (.string y.text) := by
        rw [ela] at hrr; exact hrr.flatAt LineD.cells_len hy 2 (by omega)
      have HTK : Hid ((ls.take (k + 1)).map (fun l => (Value.string l.text)) = (ls.take k).map (fun l => .string l.text) ++ [.string y.text]) := Lib.hid (by
        rw [List.take_succ_eq_append_getElem hlt, List.map_append]
        rw [List.getElem?_eq_getElem hlt] at hy
        injection hy with hy
        rw [hy]; rfl)
      have i1 : (k : Int) < (ls.length : Int) := by omega
      obtain ⟨W8, hW8⟩ : ∃ W, W = wr.alloc (.cells #[.int .i64 y.off, .int .i64 y.len, .string y.text] 31) := ⟨_, rfl⟩
      have hB8 : Blk W8 wr.heap.size 31 #[.int .i64 y.off, .int .i64 y.len, .string y.text] := by rw [hW8]; exact Blk.new wr _ _
      have g8 : wr.grownBy W8 none := by rw [hW8]; exact only_alloc (only_refl _ _) _
      have G8 := Lib.hid (only_trans G.out g8)
      have O8 := Lib.hid (own_ext OO.out g8)
      have hz8 := G8.out.size
      have c2 := hB8.cell 2
      simp at c2
      have HW8 := Lib.hid hW8.symm
      clear hW8 hB8 g8 hrr hy
      rw [ela]
      go_upto_region 5 with fail
      rw [HW8.out]
      clear d0 d1 d2 HW8
      go_wp2_with (at_builtin; refine wpList_append1 rfl _ _ 56 rfl W1.heap.size Tryz.underlying56 strInfo rfl (by decide) (v := .slice Ao k co) (by rfl) (w0 := W8) (cs := #[.string y.text]) O8.out (by rfl) rfl (by simp [Value.oneCell']) (by decide) (by omega) (by omega) ?_; intro v9 w9 hown9 hg9 hob9)
      have O9 : Hid (w9.ownsRow W1.heap.size 9 1 v9 (k + 1) ((ls.take (k + 1)).map (fun l => .string l.text))) := Lib.hid (by rw [HTK.out]; exact hown9)
      have G9 : Hid (W1.grownBy w9 none) := Lib.hid (only_own G8.out hg9 O8.out (Nat.le_refl _))
      clear hown9 hg9 hob9 c2
      go_wp2_with fail
      go_roundw
      case rel => exact ⟨k + 1, by omega, by go_num, O9.out, G9.out⟩
      case measure => simp [intOf]; omega
    · obtain rfl : k = ls.length := by omega
      have hR := RO.out
      rw [List.take_length] at hR
      have GF := Lib.hid (only_trans G1.out G.out)
      by_cases h0 : ls.length = 0
      · have HV : Hid (textOf ls = ⟨#[]⟩) := Lib.hid (by rw [List.eq_nil_of_length_eq_zero h0]; rfl)
        have KJ := Lib.hid (Tryz.strings_Join_none Ao co ⟨#[10]⟩ wr)
        clear hR hlt
        have i1 : ¬ (((0 : Nat) : Int) < ((0 : Nat) : Int)) := by omega
        rw [h0]
        clear h0
        go_wp2_with fail
        refine KJ.out.mono ?_
        rintro e w3 ⟨rfl, rfl⟩
        go_wp2_with fail
        go_ret
        exact ⟨by rw [HV.out]; rfl, GF.out⟩
      · obtain ⟨b, o, rfl, hb1, hb2, hcell⟩ := hR (by simp; omega)
        have hml : (ls.map (·.text)).length = ls.length := List.length_map ..
        have hjl := join_len (ls.map (·.text.data.toList)) 100000 (fun x hx => by
          obtain ⟨l, hl', rfl⟩ := List.mem_map.1 hx
          have := HT.out l hl'
          rw [Array.length_toList]; exact this)
        rw [List.length_map] at hjl
        have hjl2 : ls.length * (100000 + 1) ≤ 1000 * (100000 + 1) := Nat.mul_le_mul_right _ hl
        have KJ := Tryz.strings_Join b o co (ls.map (·.text)) ⟨#[10]⟩ wr (fun j x hx => by
          have := hcell j (.string x) (by
            rw [List.getElem?_map] at hx ⊢
            cases hj : ls[j]? with
            | none => rw [hj] at hx; cases hx
            | some l => rw [hj] at hx; injection hx with hx; rw [← hx]; rfl)
          exact this) hb2 (by rw [hml]; omega) (by rw [hml]; exact hoc) (by rw [List.map_map]; exact Nat.le_trans hjl (by omega))
        rw [hml] at KJ
        have KJ2 := Lib.hid KJ
        clear KJ hcell hR hjl hjl2 h0
        go_wp2_with fail
        refine KJ2.out.mono ?_
        rintro e w3 ⟨rfl, hbel⟩
        have g3 : wr.grownBy w3 none := ⟨hbel.os, hbel.tape, hbel.output, hbel.size, fun k hk _ => hbel.block k hk⟩
        have G3 := Lib.hid (only_trans GF.out g3)
        clear hbel g3 KJ2
        go_wp2_with fail
        go_ret
        exact ⟨rfl, G3.out⟩
end Go.Proofs.YtfbkkbbpgipipaaGreatDoor

namespace Go.Proofs.YtfbkkbbpgipipaaGreatDoor
open Go.RowKit
set_option linter.unusedVariables false
set_option linter.unusedSimpArgs false

set_option maxHeartbeats 2000000 in
set_option maxRecDepth 100000 in
theorem lower_any (c : Int) (w : World) (h0 : 0 ≤ c) (h255 : c ≤ 255) : Calls Tryz.prog 66 #[.int .u8 c] w (LowP c w) := by
  rcases nine c with h | ⟨h, h'⟩ | ⟨h, h'⟩ | ⟨h, h'⟩ | ⟨h, h'⟩ | h | h | ⟨h, h'⟩ | h
  · have HV := Lib.hid (lowI_no (c := c) (by omega) (by omega))
    have a1 : ¬ (65 ≤ c) := by omega
    have a2 : ¬ (97 ≤ c) := by omega
    have a3 : ¬ (48 ≤ c) := by omega
    have a4 : (c == 95) = false := by simp; omega
    go_enter Tryz.func66, Tryz.ntmps66
    go_wp2
    go_ret2
    exact ⟨by rw [HV.out]; rfl, rfl⟩
  · have HV := Lib.hid (lowI_lo (c := c) (by omega))
    have a1 : ¬ (65 ≤ c) := by omega
    have a2 : ¬ (97 ≤ c) := by omega
    go_enter Tryz.func66, Tryz.ntmps66
    go_wp2
    go_ret2
    exact ⟨by rw [HV.out]; rfl, rfl⟩
  · have HV := Lib.hid (lowI_no (c := c) (by omega) (by omega))
    have a1 : ¬ (65 ≤ c) := by omega
    have a2 : ¬ (97 ≤ c) := by omega
    have a3 : (48 ≤ c) := by omega
    have a5 : ¬ (c ≤ 57) := by omega
    have a4 : (c == 95) = false := by simp; omega
    go_enter Tryz.func66, Tryz.ntmps66
    go_wp2
    go_ret2
    exact ⟨by rw [HV.out]; rfl, rfl⟩
  · have HV := Lib.hid (lowI_up (c := c) h h')
    have hw1 : IntKind.u8.wrap (c + 97) = c + 97 := IntWalk.u8_in _ (by omega)
    have hw2 : IntKind.u8.wrap (c + 97 - 65) = c + 32 := by rw [show c + 97 - 65 = c + 32 by omega]; exact IntWalk.u8_in _ (by omega)
    go_enter Tryz.func66, Tryz.ntmps66
    go_wp2
    go_ret2
    exact ⟨by rw [HV.out]; rfl, rfl⟩
  · have HV := Lib.hid (lowI_no (c := c) (by omega) (by omega))
    have a1 : (65 ≤ c) := by omega
    have a6 : ¬ (c ≤ 90) := by omega
    have a2 : ¬ (97 ≤ c) := by omega
    have a3 : (48 ≤ c) := by omega
    have a5 : ¬ (c ≤ 57) := by omega
    have a4 : (c == 95) = false := by simp; omega
    go_enter Tryz.func66, Tryz.ntmps66
    go_wp2
    go_ret2
    exact ⟨by rw [HV.out]; rfl, rfl⟩
  · subst h
    go_enter Tryz.func66, Tryz.ntmps66
    go_wp2
    go_ret2
    exact ⟨rfl, rfl⟩
  · subst h
    go_enter Tryz.func66, Tryz.ntmps66
    go_wp2
    go_ret2
    exact ⟨rfl, rfl⟩
  · have HV := Lib.hid (lowI_lo (c := c) (by omega))
    have a1 : (65 ≤ c) := by omega
    have a6 : ¬ (c ≤ 90) := by omega
    go_enter Tryz.func66, Tryz.ntmps66
    go_wp2
    go_ret2
    exact ⟨by rw [HV.out]; rfl, rfl⟩
  · have HV := Lib.hid (lowI_no (c := c) (by omega) (by omega))
    have a1 : (65 ≤ c) := by omega
    have a6 : ¬ (c ≤ 90) := by omega
    have a2 : (97 ≤ c) := by omega
    have a7 : ¬ (c ≤ 122) := by omega
    have a3 : (48 ≤ c) := by omega
    have a5 : ¬ (c ≤ 57) := by omega
    have a4 : (c == 95) = false := by simp; omega
    go_enter Tryz.func66, Tryz.ntmps66
    go_wp2
    go_ret2
    exact ⟨by rw [HV.out]; rfl, rfl⟩
end Go.Proofs.YtfbkkbbpgipipaaGreatDoor

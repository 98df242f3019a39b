/- The library's contracts that are used, laid at this program: strings.Builder's WriteString and String, strconv.Itoa. Written by the kit's shelf tools; WriteString's laying by hand (the tool finds no number for a type that its bodies do not name). Hooks of layer 19: numerals, strings.Builder's copyCheck and String. Hooks of layer 19: strings.Builder's String. -/
import Derived.Test.YtibeinbfhhoeiaaGreatDoorZJ4
import Derived.Shelf.Strings.Builder1
import Derived.Shelf.Small.Bits
import Derived.Shelf.Small.Wraps
import Derived.Shelf.LaysM
import Derived.Shelf.Strconv.Itoa3
import Derived.Test.YtibeinbfhhoeiaaGreatDoorProg
import Derived.Test.YtibeinbfhhoeiaaGreatDoorZA6
import Derived.Lib.ItoaLen
import Derived.Lib.UnsafeStr
import Derived.OwnWalk
import Derived.WalkKit
import Derived.BigCall
namespace Go.Proofs
open Go.Shelf
def Tryz.lays166_ren : Go.Shelf.Ren := ⟨fun | 166 => 171 | 240 => 184 | 276 => 190 | n => n, fun | 70 => 235 | 9 => 9 | 0 => 0 | 72 => 237 | 37 => 142 | 75 => 239 | 80 => 242 | 164 => 258 | 20 => 20 | 3 => 3 | 4 => 4 | 5 => 5 | n => n, fun | n => n⟩
theorem Tryz.lays166 : Go.Proofs.Lays.n166 Tryz.prog Tryz.lays166_ren := {
  mixed := by kernel_rfl
  f166 := Tryz.func171.trans (congrArg some (by kernel_rfl))
  f240 := Tryz.func184.trans (congrArg some (by kernel_rfl))
  f276 := Tryz.func190.trans (congrArg some (by kernel_rfl))
  t0 := Tryz.underlying0
  a0 := Tryz.isAgg0
  z0 := Tryz.sizeOf0
  v0 := Tryz.zeroValue0
  t3 := Tryz.underlying3
  a3 := Tryz.isAgg3
  z3 := Tryz.sizeOf3
  v3 := Tryz.zeroValue3
  t4 := Tryz.underlying4
  a4 := Tryz.isAgg4
  z4 := Tryz.sizeOf4
  v4 := Tryz.zeroValue4
  t9 := Tryz.underlying9
  a9 := Tryz.isAgg9
  z9 := Tryz.sizeOf9
  v9 := Tryz.zeroValue9
  t20 := Tryz.underlying20
  a20 := Tryz.isAgg20
  z20 := Tryz.sizeOf20
  v20 := Tryz.zeroValue20
  t37 := Tryz.underlying142
  a37 := Tryz.isAgg142
  z37 := Tryz.sizeOf142
  v37 := Tryz.zeroValue142
  t70 := Tryz.underlying235
  a70 := Tryz.isAgg235
  z70 := Tryz.sizeOf235
  v70 := Tryz.zeroValue235
  t72 := Tryz.underlying237
  a72 := Tryz.isAgg237
  z72 := Tryz.sizeOf237
  v72 := Tryz.zeroValue237
  t75 := Tryz.underlying239
  a75 := Tryz.isAgg239
  z75 := Tryz.sizeOf239
  v75 := Tryz.zeroValue239
  t164 := Tryz.underlying258
  a164 := Tryz.isAgg258
  z164 := Tryz.sizeOf258
  v164 := Tryz.zeroValue258 }
theorem Tryz.Builder_Extra_166 : Builder.Extra Tryz.prog Tryz.lays166_ren := {
  sizeBuilder := by kernel_rfl
  liesBuilder := by kernel_rfl
  t5 := Tryz.underlying5
  a5 := Tryz.isAgg5
  z5 := Tryz.sizeOf5
  v5 := Tryz.zeroValue5
  infoByte := by kernel_rfl
  cellsByte := by kernel_rfl
  sizeByte := by kernel_rfl
  neB5 := by decide }
theorem Tryz.Builder_WriteString (B b : Nat) (bs : List Value) (s : ByteArray) (w : World) (h : Lib.IsBuilder 237 5 B b bs w) (hlen : bs.length + s.size ≤ 140737488355328) (hBw : B ≤ w.heap.size) :
    Calls Tryz.prog 171 #[.pointer (some ⟨b, 0, none⟩), .string s] w fun e w' => e = .returned (.tuple #[.int .i64 s.size, .nilIface]) ∧ (Lib.BuilderAt 237 5 B b (.pointer (some ⟨b, 0, none⟩)) (bs ++ Lib.strCells s) w' ∧ RowKit.Below B w w') := Any.Builder_WriteString Tryz.lays166 Tryz.Builder_Extra_166 B b bs s w h hlen hBw
def Tryz.lays169_ren : Go.Shelf.Ren := ⟨fun | 169 => 172 | n => n, fun | 70 => 235 | 9 => 9 | 0 => 0 | 72 => 237 | 37 => 142 | 127 => 251 | 3 => 3 | 5 => 5 | n => n, fun | n => n⟩
theorem Tryz.lays169 : Go.Proofs.Lays.n169 Tryz.prog Tryz.lays169_ren := {
  mixed := by kernel_rfl
  f169 := Tryz.func172.trans (congrArg some (by kernel_rfl))
  t0 := Tryz.underlying0
  a0 := Tryz.isAgg0
  z0 := Tryz.sizeOf0
  v0 := Tryz.zeroValue0
  t3 := Tryz.underlying3
  a3 := Tryz.isAgg3
  z3 := Tryz.sizeOf3
  v3 := Tryz.zeroValue3
  t9 := Tryz.underlying9
  a9 := Tryz.isAgg9
  z9 := Tryz.sizeOf9
  v9 := Tryz.zeroValue9
  t37 := Tryz.underlying142
  a37 := Tryz.isAgg142
  z37 := Tryz.sizeOf142
  v37 := Tryz.zeroValue142
  t70 := Tryz.underlying235
  a70 := Tryz.isAgg235
  z70 := Tryz.sizeOf235
  v70 := Tryz.zeroValue235
  t72 := Tryz.underlying237
  a72 := Tryz.isAgg237
  z72 := Tryz.sizeOf237
  v72 := Tryz.zeroValue237
  t127 := Tryz.underlying251
  a127 := Tryz.isAgg251
  z127 := Tryz.sizeOf251
  v127 := Tryz.zeroValue251 }
theorem Tryz.Builder_Extra_169 : Builder.Extra Tryz.prog Tryz.lays169_ren := {
  sizeBuilder := by kernel_rfl
  liesBuilder := by kernel_rfl
  t5 := Tryz.underlying5
  a5 := Tryz.isAgg5
  z5 := Tryz.sizeOf5
  v5 := Tryz.zeroValue5
  infoByte := by kernel_rfl
  cellsByte := by kernel_rfl
  sizeByte := by kernel_rfl
  neB5 := by decide }
open Go.RowKit in
/-- (*strings.Builder).String: "String returns the accumulated string.": WHATEVER THE BUILDER HOLDS. (LAID: no walk: one application.) -/
theorem Tryz.Builder_String_any (B b : Nat) (l : List UInt8) (w : World) (h : Lib.IsBuilder 237 5 B b (Lib.byteCells l) w) (hBw : B ≤ w.heap.size) :
    Calls Tryz.prog 172 #[.pointer (some ⟨b, 0, none⟩)] w fun e w' => e = .returned (.string ⟨l.toArray⟩) ∧ Below B w w' := Any.Builder_String_any Tryz.lays169 Tryz.Builder_Extra_169 B b l w h hBw
def Tryz.laysM171_ren : Go.Shelf.Ren := ⟨fun | 171 => 26 | 243 => 50 | 246 => 81 | 283 => 98 | 284 => 99 | 285 => 100 | 286 => 101 | 129 => 111 | 317 => 110 | 318 => 112 | 319 => 113 | 320 => 114 | 337 => 129 | 338 => 130 | n => n, fun | 3 => 3 | 9 => 9 | 2 => 2 | 4 => 4 | 171 => 159 | 0 => 0 | 53 => 106 | 37 => 142 | 5 => 5 | 173 => 162 | 212 => 177 | 51 => 178 | 20 => 20 | 213 => 179 | 46 => 180 | 232 => 225 | 233 => 226 | n => n, fun | 17 => 0 | 18 => 1 | 19 => 2 | n => n⟩
theorem Tryz.laysM171 : Go.Proofs.LaysM.n171 Tryz.prog Tryz.laysM171_ren := {
  mixed := by kernel_rfl
  f129 := Tryz.func111.trans (congrArg some (by kernel_rfl))
  f171 := Tryz.func26.trans (congrArg some (by kernel_rfl))
  f243 := Tryz.func50.trans (congrArg some (by kernel_rfl))
  f246 := Tryz.func81.trans (congrArg some (by kernel_rfl))
  f283 := Tryz.func98.trans (congrArg some (by kernel_rfl))
  f284 := Tryz.func99.trans (congrArg some (by kernel_rfl))
  f285 := Tryz.func100.trans (congrArg some (by kernel_rfl))
  f286 := Tryz.func101.trans (congrArg some (by kernel_rfl))
  f317 := Tryz.func110.trans (congrArg some (by kernel_rfl))
  f318 := Tryz.func112.trans (congrArg some (by kernel_rfl))
  f319 := Tryz.func113.trans (congrArg some (by kernel_rfl))
  f320 := Tryz.func114.trans (congrArg some (by kernel_rfl))
  f337 := Tryz.func129.trans (congrArg some (by kernel_rfl))
  f338 := Tryz.func130.trans (congrArg some (by kernel_rfl))
  t0 := Tryz.underlying0
  a0 := Tryz.isAgg0
  z0 := Tryz.sizeOf0
  v0 := Tryz.zeroValue0
  t2 := Tryz.underlying2
  a2 := Tryz.isAgg2
  z2 := Tryz.sizeOf2
  v2 := Tryz.zeroValue2
  t3 := Tryz.underlying3
  a3 := Tryz.isAgg3
  z3 := Tryz.sizeOf3
  v3 := Tryz.zeroValue3
  t4 := Tryz.underlying4
  a4 := Tryz.isAgg4
  z4 := Tryz.sizeOf4
  v4 := Tryz.zeroValue4
  t5 := Tryz.underlying5
  a5 := Tryz.isAgg5
  z5 := Tryz.sizeOf5
  v5 := Tryz.zeroValue5
  t9 := Tryz.underlying9
  a9 := Tryz.isAgg9
  z9 := Tryz.sizeOf9
  v9 := Tryz.zeroValue9
  t20 := Tryz.underlying20
  a20 := Tryz.isAgg20
  z20 := Tryz.sizeOf20
  v20 := Tryz.zeroValue20
  t37 := Tryz.underlying142
  a37 := Tryz.isAgg142
  z37 := Tryz.sizeOf142
  v37 := Tryz.zeroValue142
  t46 := Tryz.underlying180
  a46 := Tryz.isAgg180
  z46 := Tryz.sizeOf180
  v46 := Tryz.zeroValue180
  t51 := Tryz.underlying178
  a51 := Tryz.isAgg178
  z51 := Tryz.sizeOf178
  v51 := Tryz.zeroValue178
  t53 := Tryz.underlying106
  a53 := Tryz.isAgg106
  z53 := Tryz.sizeOf106
  v53 := Tryz.zeroValue106
  t171 := Tryz.underlying159
  a171 := Tryz.isAgg159
  z171 := Tryz.sizeOf159
  v171 := Tryz.zeroValue159
  t173 := Tryz.underlying162
  a173 := Tryz.isAgg162
  z173 := Tryz.sizeOf162
  v173 := Tryz.zeroValue162
  t212 := Tryz.underlying177
  a212 := Tryz.isAgg177
  z212 := Tryz.sizeOf177
  v212 := Tryz.zeroValue177
  t213 := Tryz.underlying179
  a213 := Tryz.isAgg179
  z213 := Tryz.sizeOf179
  t232 := Tryz.underlying225
  a232 := Tryz.isAgg225
  z232 := Tryz.sizeOf225
  v232 := Tryz.zeroValue225
  t233 := Tryz.underlying226
  a233 := Tryz.isAgg226
  z233 := Tryz.sizeOf226
  v233 := Tryz.zeroValue226
  g17 := by kernel_rfl
  g18 := by kernel_rfl
  g19 := by kernel_rfl
  i0 := by kernel_rfl
  i2 := by kernel_rfl
  i3 := by kernel_rfl
  i4 := by kernel_rfl
  i5 := by kernel_rfl
  i9 := by kernel_rfl
  i20 := by kernel_rfl
  i37 := by kernel_rfl
  i46 := by kernel_rfl
  i51 := by kernel_rfl
  i53 := by kernel_rfl
  i171 := by kernel_rfl
  i173 := by kernel_rfl
  i212 := by kernel_rfl
  i232 := by kernel_rfl
  i233 := by kernel_rfl
  m17 := by kernel_rfl
  m18 := by kernel_rfl
  m19 := by kernel_rfl }
open Go.RowKit Go.Sort Go.Lib in
/-- strconv.Itoa: "Itoa is equivalent to FormatInt(int64(i), 10).": i's DECIMAL NUMERAL ('Lib.itoa': a '-' where i is negative, then the digits), FOR EVERY int. The world behind the call: the world before it, new blocks behind the heap (the library's 'var a [24]byte'), draws. (LAID: no walk: one application.) -/
theorem Tryz.strconv_Itoa (n : Int) (h0 : -9223372036854775808 ≤ n) (h1 : n ≤ 9223372036854775807) (w : World) (htab : Lib.TabIs Tryz.prog w "internal/strconv.uint64pow10" .u64 Lib.pow10Tab) :
    Calls Tryz.prog 26 #[.int .i64 n] w fun e w' => e = .returned (.string ⟨(Lib.itoa n).toArray⟩) ∧ ∃ k os, w' = grow (w.drewN k) os := Any.strconv_Itoa Tryz.laysM171 n h0 h1 w htab
end Go.Proofs

namespace Go.Proofs.YtibeinbfhhoeiaaGreatDoor.Ab
open Go Go.Proofs Go.Shelf Go.RowKit
noncomputable section

/- ## numerals -/
def decK : Nat → Nat → List UInt8 → List UInt8
  | 0, _, acc => acc
  | f + 1, u, acc => match Nat.blt u 10 with
    | true => UInt8.ofNat (48 + u) :: acc
    | false => decK f (u / 10) (UInt8.ofNat (48 + u % 10) :: acc)
theorem decK_eq : ∀ (f u : Nat) (acc : List UInt8), u < 10 ^ f → decK f u acc = Lib.decDigits u ++ acc ∨ f = 0
  | 0, u, acc, h => .inr rfl
  | f + 1, u, acc, h => by
    left
    unfold decK
    cases hb : Nat.blt u 10 with
    | true =>
      have := blt_spec.1 hb
      rw [Lib.decDigits, dif_pos this]; rfl
    | false =>
      have hn : ¬ u < 10 := fun h => by rw [blt_spec.2 h] at hb; cases hb
      have hd : u / 10 < 10 ^ f := by
        rw [Nat.pow_succ] at h
        omega
      have hf : f ≠ 0 := fun e => by subst e; simp at hd; omega
      rcases decK_eq f (u / 10) (UInt8.ofNat (48 + u % 10) :: acc) hd with h1 | h1
      · rw [show Lib.decDigits u = Lib.decDigits (u / 10) ++ [UInt8.ofNat (48 + u % 10)] by rw [Lib.decDigits, dif_neg hn], List.append_assoc]
        exact h1
      · exact absurd h1 hf
def itoaK (n : Int) : List UInt8 := match n with
  | .ofNat u => decK 20 u []
  | .negSucc u => 45 :: decK 20 (u + 1) []
theorem itoaK_eq {n : Int} (h0 : -9223372036854775808 ≤ n) (h1 : n ≤ 9223372036854775807) : itoaK n = Lib.itoa n := by
  cases n with
  | ofNat u =>
    rcases decK_eq 20 u [] (by simp only [Int.ofNat_eq_natCast] at h1; omega) with h | h
    · show decK 20 u [] = _
      rw [h, List.append_nil]
      unfold Lib.itoa
      rw [if_neg (by simp), Int.ofNat_eq_natCast, Int.toNat_natCast]
    · cases h
  | negSucc u =>
    rcases decK_eq 20 (u + 1) [] (by omega) with h | h
    · show 45 :: decK 20 (u + 1) [] = _
      rw [h, List.append_nil]
      unfold Lib.itoa
      rw [if_pos (by omega)]
      rfl
    · cases h
def tabV : List Value := Lib.pow10Tab.map (Value.int .u64)
def in64 (n : Int) : Bool := decide (-9223372036854775808 ≤ n) && decide (n ≤ 9223372036854775807)
def hkItoa (args : List Value) (H : Heap) : AEnd := match args with
  | [.int .i64 n] => match H.get 0 with
    | some (.row tab _ k) => match !isDead k && veqL tab tabV && in64 n with
      | true => .ret (.string ⟨⟨itoaK n⟩⟩) H
      | false => .none
    | _ => .none
  | _ => .none
theorem hkItoa_spec {args : List Value} {H : Heap} (h : hkItoa args H ≠ .none) : ∃ n t k, args = [.int .i64 n] ∧ H.get 0 = some (.row tabV t k) ∧ isDead k = false ∧ -9223372036854775808 ≤ n ∧ n ≤ 9223372036854775807 ∧ hkItoa args H = .ret (.string ⟨(Lib.itoa n).toArray⟩) H := by
  unfold hkItoa at h ⊢
  split at h
  · rename_i n
    split at h
    · rename_i tab t k hg
      split at h
      · rename_i hb
        have hbb := hb
        unfold in64 at hb
        simp only [Bool.and_eq_true, Bool.not_eq_true', decide_eq_true_eq] at hb
        obtain ⟨⟨b1, b2⟩, b3, b4⟩ := hb
        have b2 := veqL_eq _ _ b2
        subst b2
        refine ⟨n, t, k, rfl, hg, b1, b3, b4, ?_⟩
        rw [itoaK_eq b3 b4]
      · exact absurd rfl h
    · exact absurd rfl h
  · exact absurd rfl h

theorem globalNamed0 : Tryz.prog.globalNamed "internal/strconv.uint64pow10" = some 0 := by kernel_rfl
theorem tabIs_rep {w : World} {σ : Sig} {H : Heap} (hR : Rep Tryz.prog σ H w) {tt : TypeId} {kt : Kind} (h0 : H.get 0 = some (.row tabV tt kt)) (hd : isDead kt = false) : Lib.TabIs Tryz.prog w "internal/strconv.uint64pow10" .u64 Lib.pow10Tab := by
  have h00 : (0 : Nat) < Tryz.prog.globals.size := by decide +kernel
  have hσ := hR.glob.2 0 h00
  rcases hR.obj 0 _ h0 with hk | ⟨c, fr, h1, h2, h3, _, _, h6, _⟩
  · subst hk; cases hd
  · rw [hσ] at h1 h2 h3
    have h6 := h6 h00
    unfold Lib.TabIs World.var?
    rw [globalNamed0]
    simp only [Option.bind_some, h1]
    congr 1
    apply Array.ext
    · rw [h6]; simp [tabV]
    · intro j hj hj'
      have hl : j < tabV.length := by rw [← h6]; exact hj
      have := h3 j _ (List.getElem?_eq_getElem hl)
      rw [ren_clo _ _ (by
        have := List.getElem_mem hl
        obtain ⟨x, _, e⟩ := List.mem_map.1 this
        rw [← e]; rfl), Nat.zero_add, Array.getElem?_eq_getElem hj] at this
      have e := Option.some.inj this
      rw [e]
      simp [tabV]
theorem hkItoa_ok {args : List Value} {H : Heap} (h : hkItoa args H ≠ .none) (σ : Sig) (w : World) (hR : Rep Tryz.prog σ H w) : Calls Tryz.prog 26 ⟨args.map (ren σ)⟩ w (EndPost Tryz.prog σ H w (hkItoa args H)) := by
  obtain ⟨n, t, k, rfl, hg, hd, h0, h1, e⟩ := hkItoa_spec h
  rw [e]
  refine (Tryz.strconv_Itoa n h0 h1 w (tabIs_rep hR hg hd)).mono fun en w' hen => ?_
  obtain ⟨rfl, m, os, rfl⟩ := hen
  have r0 : Rep Tryz.prog σ H (w.drewN m) := hR.of_heap rfl
  obtain ⟨r, s⟩ := r0.grown os
  refine ⟨σ, rfl, r, ?_, .clo rfl⟩
  have s0 : Stp σ H w σ H (w.drewN m) := ⟨fun _ _ => rfl, Nat.le_refl _, rfl, rfl, rfl, Nat.le_refl _, fun _ _ _ => rfl, fun i o h ho => .inl ⟨i, o, h, ho, rfl⟩, fun i o h ho => .inl ⟨i, o, h, ho, rfl⟩⟩
  exact s0.trans s

/- ## a builder's mark -/
def hkCopy (args : List Value) (H : Heap) : AEnd := match args with
  | [.pointer (some ⟨id, 0, none⟩)] => match H.get id with
    | some (.row [.pointer none, b] t .fixed) => match Nat.beq t 237 with
      | true => .ret (.tuple ⟨[]⟩) (H.set id (.row [.pointer (some ⟨id, 0, none⟩), b] t .fixed))
      | false => .none
    | some (.row [.pointer (some ⟨i, 0, none⟩), _] t .fixed) => match Nat.beq t 237 && Nat.beq i id with
      | true => .ret (.tuple ⟨[]⟩) H
      | false => .none
    | _ => .none
  | _ => .none
theorem hkCopy_ok {args : List Value} {H : Heap} (h : hkCopy args H ≠ .none) (σ : Sig) (w : World) (hR : Rep Tryz.prog σ H w) : Calls Tryz.prog 184 ⟨args.map (ren σ)⟩ w (EndPost Tryz.prog σ H w (hkCopy args H)) := by
  unfold hkCopy at h ⊢
  split at h
  · rename_i id
    split at h
    · rename_i b t hg
      split at h
      · rename_i hb
        have ht := Nat.eq_of_beq_eq_true hb
        subst ht
        rcases hR.obj id _ hg with hk | ⟨c, fr, h1, h2, h3, h4, _, h5, h6⟩
        · cases hk
        obtain ⟨o0, cs⟩ := h6 rfl
        have hfr := h4 (by simp)
        subst hfr
        have hc0 := h3 0 _ rfl
        have hc1 := h3 1 _ rfl
        rw [o0] at hc0 hc1
        simp only [ren] at hc0
        have hargs : (⟨[Value.pointer (some ⟨id, 0, none⟩)].map (ren σ)⟩ : Array Value) = #[.pointer (some ⟨(σ id).blk, 0, none⟩)] := by
          simp [ren, renAddr, o0]
        rw [hargs]
        have hcs : c.size = 2 := by rw [cs]; rfl
        have hcell : w.cell? ⟨(σ id).blk, 0, none⟩ = some (.pointer none) := by
          unfold World.cell?
          simp only [h1]
          simpa using hc0
        refine (Any.Builder_copyCheck_fresh { Tryz.lays166 with } Tryz.Builder_Extra_166.toX72 (σ id).blk w hcell ?_ ?_).mono fun en w' hen => ?_
        · unfold World.shape?; simp only [h1, hcs]; rfl
        · unfold World.frozen?; simp [h1]
        obtain ⟨rfl, rfl⟩ := hen
        obtain ⟨r, s⟩ := hR.write (o' := .row [.pointer (some ⟨id, 0, none⟩), b] 237 .fixed) (w' := w.setCell ⟨(σ id).blk, 0, none⟩ (.pointer (some ⟨(σ id).blk, 0, none⟩))) hg rfl rfl (by
            intro v hv
            rcases List.mem_cons.1 hv with rfl | hv
            · exact stab_ptr (hR.lt _ _ hg) 0
            · exact hR.stab _ _ hg v (.tail _ hv)) (fun k hk => by
            unfold World.setCell
            simp only [Array.getElem?_modify]
            rw [if_neg (Ne.symm hk)]) (by unfold World.setCell; simp) rfl rfl rfl (by
            refine .inr ⟨c.setIfInBounds 0 (.pointer (some ⟨(σ id).blk, 0, none⟩)), (0, 0), ?_, ?_, ?_, fun _ => rfl, (fun hk => by cases hk), (fun hg => ?_), fun _ => ⟨o0, ?_⟩⟩
            · unfold World.setCell
              simp only [Array.getElem?_modify, if_true, h1, Option.map_some]
              simp
            · rw [Array.size_setIfInBounds]; exact h2
            · intro j v hv
              rw [o0, Nat.zero_add]
              match j, hv with
              | 0, hv =>
                simp only [List.getElem?_cons_zero, Option.some.injEq] at hv
                subst hv
                rw [Array.getElem?_setIfInBounds, if_pos rfl, if_pos (by omega)]
                simp [ren, renAddr, o0]
              | 1, hv =>
                rw [Array.getElem?_setIfInBounds, if_neg (by omega)]
                have := h3 1 v hv
                rw [o0] at this
                simpa using this
            · rw [Array.size_setIfInBounds]; exact h5 hg
            · rw [Array.size_setIfInBounds]; exact cs)
        exact ⟨σ, rfl, r, s, .clo rfl⟩
      · exact absurd rfl h
    · rename_i i b t hg
      split at h
      · rename_i hb
        have hb' := hb
        simp only [Bool.and_eq_true] at hb
        obtain ⟨ht, hi⟩ := hb
        have ht := Nat.eq_of_beq_eq_true ht
        have hi := Nat.eq_of_beq_eq_true hi
        subst ht
        subst hi
        rcases hR.obj i _ hg with hk | ⟨c, fr, h1, h2, h3, h4, _, h5, h6⟩
        · cases hk
        obtain ⟨o0, cs⟩ := h6 rfl
        have hc0 := h3 0 _ rfl
        rw [o0] at hc0
        have hargs : (⟨[Value.pointer (some ⟨i, 0, none⟩)].map (ren σ)⟩ : Array Value) = #[.pointer (some ⟨(σ i).blk, 0, none⟩)] := by
          simp [ren, renAddr, o0]
        rw [hargs]
        have hcell : w.cell? ⟨(σ i).blk, 0, none⟩ = some (.pointer (some ⟨(σ i).blk, 0, none⟩)) := by
          unfold World.cell?
          simp only [h1]
          simpa [ren, renAddr, o0] using hc0
        refine (Any.Builder_copyCheck_used { Tryz.lays166 with } Tryz.Builder_Extra_166.toX72 (σ i).blk w hcell).mono fun en w' hen => ?_
        obtain ⟨rfl, rfl⟩ := hen
        exact ⟨σ, rfl, hR, Stp.refl _ _ _, .clo rfl⟩
      · exact absurd rfl h
    · exact absurd rfl h
  · exact absurd rfl h
end
end Go.Proofs.YtibeinbfhhoeiaaGreatDoor.Ab

namespace Go.Proofs.YtibeinbfhhoeiaaGreatDoor.Ab
open Go Go.Proofs Go.Shelf Go.RowKit
noncomputable section

section
variable {P : Program} (w : World)
theorem liesAt_bytes_at {e : TypeId} (hc : P.cellsOf e = 1) (count o n : Nat) (hn : o + n ≤ count) : liesAt P P.depth e count o e n = true := by
  have hd : P.depth = (2 * (P.types.size + Made.depth) + 1) + 1 := rfl
  rw [hd]
  simp only [liesAt, Bool.or_eq_true]
  left
  rw [hd]
  simp [rowAt, hc, sameLayout, Nat.mod_one, Nat.div_one]
  omega
theorem run_unsafeString_at (pt it ty e : TypeId) (hp : P.underlying pt = some (.pointer e)) (hc : P.cellsOf e = 1) (g o cells : Nat) (hsh : w.shape? g = some (e, cells)) (l : List UInt8) (h0 : l ≠ []) (hn : o + l.length ≤ cells) (h63 : l.length ≤ 9223372036854775807)
    (hcell : ∀ j x, l[j]? = some x → w.cell? ((⟨g, o, none⟩ : Addr).add j) = some (.int .u8 x.toNat)) :
    (Builtin.unsafeString_ #[pt, it] ty #[.pointer (some ⟨g, o, none⟩), .int .i64 l.length]).run P w = .ok (.string ⟨l.toArray⟩) (w.freeze ⟨g, o, none⟩ l.length) := by
  have hl : l.length ≠ 0 := by simpa using h0
  have hlb := Lib.run_loadBytes (P := P) w l ⟨g, o, none⟩ .empty hcell
  have hlies := liesAt_bytes_at (P := P) hc (cells / P.cellsOf e) o l.length (by rw [hc]; simpa using hn)
  have h63' : ¬ (9223372036854775807 : Int) < (l.length : Int) := by omega
  change Sem.run P (bind (asInt (.int .i64 (l.length : Int))) _) w = _
  have hmax : IntKind.i64.max = 9223372036854775807 := rfl
  have hneg : ¬ (l.length : Int) < 0 := by omega
  simp [asInt, asIntOf, hmax, h63', hneg, hl, variablesAt, hsh, elemOf, run_underlying hp, hlies, hlb]
end

set_option maxHeartbeats 1000000 in
set_option maxRecDepth 100000 in
/-- String, of a builder that holds something, wherever its bytes lie. -/
theorem bstr_walk (b g o cap : Nat) (p : Value) (cur : Array Value) (l : List UInt8) (w : World) (h0 : l ≠ []) (hbk : w.heap[b]? = some (.cells #[p, .slice (some ⟨g, o, none⟩) l.length cap] 237 (0, 0)))
    (hg : w.heap[g]? = some (.cells cur 5 (0, 0))) (hc : o + l.length ≤ cur.size) (hcap : cap ≠ 0) (hm : l.length ≤ 9223372036854775807) (hx : ∀ j x, l[j]? = some x → cur[o + j]? = some (.int .u8 x.toNat)) :
    Calls Tryz.prog 172 #[.pointer (some ⟨b, 0, none⟩)] w fun e w' => e = .returned (.string ⟨l.toArray⟩) ∧ w' = w.drew.freeze ⟨g, o, none⟩ l.length := by
  have hl0 : l.length ≠ 0 := by simpa using h0
  have c1 : w.drew.cell? ⟨b, 1, none⟩ = some (.slice (some ⟨g, o, none⟩) l.length cap) := by
    have : w.drew.heap[b]? = some (.cells #[p, .slice (some ⟨g, o, none⟩) l.length cap] 237 (0, 0)) := hbk
    rw [Lib.cell_of_heap this]; rfl
  have hSD : (Builtin.unsafeSliceData_ #[142] 251 #[.slice (some ⟨g, o, none⟩) l.length cap]).run Tryz.prog w.drew = .ok (.pointer (some ⟨g, o, none⟩)) w.drew :=
    Lib.run_unsafeSliceData_row _ _ _ _ _ _ hcap
  have hUS : (Builtin.unsafeString_ #[251, 3] 9 #[.pointer (some ⟨g, o, none⟩), .int .i64 l.length]).run Tryz.prog w.drew = .ok (.string ⟨l.toArray⟩) (w.drew.freeze ⟨g, o, none⟩ l.length) := by
    refine run_unsafeString_at w.drew 251 3 9 5 Tryz.underlying251 Tryz.Builder_Extra_169.cellsByte g o cur.size (by have hg' : w.drew.heap[g]? = some (.cells cur 5 (0, 0)) := hg; simp [World.shape?, hg']) l h0 hc hm ?_
    intro j x hj
    have hg' : w.drew.heap[g]? = some (.cells cur 5 (0, 0)) := hg
    have := hx j x hj
    have hadd : (⟨g, o, none⟩ : Addr).add j = ⟨g, o + j, none⟩ := by
      unfold Addr.add
      split
      · rename_i e; rw [e]; rfl
      · rfl
    rw [hadd, Lib.cell_of_heap hg']
    exact this
  have mixed := Tryz.lays169.mixed
  have t72 := Tryz.underlying237; have a72 := Tryz.isAgg237; have z72 := Tryz.sizeOf237; have v72 := Tryz.zeroValue237; have u72 := run_underlying Tryz.underlying237
  have t37 := Tryz.underlying142; have a37 := Tryz.isAgg142; have z37 := Tryz.sizeOf142; have v37 := Tryz.zeroValue142; have u37 := run_underlying Tryz.underlying142
  go_enter Tryz.func172, Tryz.ntmps172
  go_wp2
  go_region_o
  all_goals (go_wp2; go_ret; exact ⟨rfl, rfl⟩)

/-- A thing of one's own is lost: whatever is in its place. -/
theorem Rep.lost {P : Program} {σ : Sig} {H : Heap} {w w' : World} (h : Rep P σ H w) {id : Nat} {o : AObj} {elem : TypeId} (ho : H.get id = some o) (hown : o.own = true) (hb : ∀ b, b ≠ (σ id).blk → w'.heap[b]? = w.heap[b]?) (hsz : w'.heap.size = w.heap.size)
    (h1 : w'.os = w.os) (h2 : w'.tape = w.tape) (h3 : w'.output = w.output) : Rep P σ (H.set id (.row [] elem .dead)) w' ∧ Stp σ H w σ (H.set id (.row [] elem .dead)) w' := by
  obtain ⟨r, s⟩ := h.kill (elem := elem) ho
  have hinv : ∀ i a, (H.set id (.row [] elem .dead)).get i = some a → a.live = true → i ≠ id ∧ H.get i = some a := by
    intro i a hi hl
    by_cases e : i = id
    · subst e
      rw [Heap.get_set_same] at hi
      cases hi
      cases hl
    · rw [Heap.get_set_ne _ _ (Ne.symm e)] at hi
      exact ⟨e, hi⟩
  have hlive : ∀ {a : AObj}, a.own = true → a.live = true := by
    intro a ha
    cases a with
    | row cells elem kind => cases kind <;> first | rfl | cases ha
    | map es => rfl
    | chan cap buf => rfl
  refine ⟨r.keep fun i a hi hl => ?_, { ext := fun _ _ => rfl, nxt := Nat.le_refl _, os := h1, tape := h2, output := h3, size := Nat.le_of_eq hsz.symm, frame := fun b _ hn => hb b fun e => hn id o ho hown e.symm, foot := fun i a hi ha => ?_, lv := fun i a hi ha => ?_ }⟩
  · obtain ⟨e, hi'⟩ := hinv i a hi hl
    exact hb _ (h.apart i id a o e hi' ho hl hown)
  · exact .inl ⟨i, a, (hinv i a hi (hlive ha)).2, ha, rfl⟩
  · exact .inl ⟨i, a, (hinv i a hi ha).2, ha, rfl⟩

def bytesOf : List Value → Option (List UInt8)
  | [] => some []
  | .int .u8 x :: l => match decide (0 ≤ x) && decide (x ≤ 255) with
    | true => match bytesOf l with
      | some r => some (UInt8.ofNat x.toNat :: r)
      | none => none
    | false => none
  | _ => none
theorem bytesOf_eq : ∀ {vs : List Value} {l : List UInt8}, bytesOf vs = some l → vs.length = l.length ∧ ∀ (j : Nat) (x : UInt8), l[j]? = some x → vs[j]? = some (Value.int .u8 x.toNat)
  | [], l, h => by cases h; exact ⟨rfl, fun j x hj => by simp at hj⟩
  | v :: vs, l, h => by
    cases v <;> try (cases h; done)
    rename_i k x
    cases k <;> try (cases h; done)
    unfold bytesOf at h
    split at h
    · rename_i hx
      simp only [Bool.and_eq_true, decide_eq_true_eq] at hx
      split at h
      · rename_i r hr
        cases h
        obtain ⟨h1, h2⟩ := bytesOf_eq hr
        refine ⟨by simp [h1], fun j y hj => ?_⟩
        match j, hj with
        | 0, hj =>
          simp only [List.getElem?_cons_zero, Option.some.injEq] at hj ⊢
          subst hj
          congr 1
          rw [UInt8.toNat_ofNat']
          omega
        | j + 1, hj =>
          rw [List.getElem?_cons_succ] at hj ⊢
          exact h2 j y hj
      · cases h
    · cases h
def hkStr (args : List Value) (H : Heap) : AEnd := match args with
  | [.pointer (some ⟨id, 0, none⟩)] => match H.get id with
    | some (.row [_, .slice (some ⟨g, 0, none⟩) n c] t .fixed) => match H.get g with
      | some (.row cells u .opn) => match bytesOf cells with
        | some l => match Nat.beq t 237 && Nat.beq u 5 && Nat.beq l.length n && Nat.blt 0 n && Nat.ble n 1099511627776 && Nat.beq c OPEN && !(Nat.beq g id) with
          | true => .ret (.string ⟨⟨l⟩⟩) (H.set g (.row [] 5 .dead))
          | false => .none
        | none => .none
      | _ => .none
    | _ => .none
  | _ => .none
theorem hkStr_ok {args : List Value} {H : Heap} (h : hkStr args H ≠ .none) (σ : Sig) (w : World) (hR : Rep Tryz.prog σ H w) : Calls Tryz.prog 172 ⟨args.map (ren σ)⟩ w (EndPost Tryz.prog σ H w (hkStr args H)) := by
  unfold hkStr at h ⊢
  split at h
  · rename_i id
    split at h
    · rename_i p g n c t hg
      split at h
      · rename_i cells u hgg
        split at h
        · rename_i l hl
          split at h
          · rename_i hb
            simp only [Bool.and_eq_true, Bool.not_eq_true'] at hb
            obtain ⟨⟨⟨⟨⟨⟨ht, hu⟩, hn⟩, h0⟩, hle⟩, hc⟩, hne⟩ := hb
            have ht := Nat.eq_of_beq_eq_true ht
            have hu := Nat.eq_of_beq_eq_true hu
            have hn := Nat.eq_of_beq_eq_true hn
            have h0 := blt_spec.1 h0
            have hle := Nat.le_of_ble_eq_true hle
            have hc := Nat.eq_of_beq_eq_true hc
            subst ht hu hn hc
            obtain ⟨e1, e2⟩ := bytesOf_eq hl
            rcases hR.obj id _ hg with hk | ⟨cb, fr, h1, h2, h3, h4, _, _, h6⟩
            · cases hk
            obtain ⟨o0, cs⟩ := h6 rfl
            have hfr := h4 (by simp)
            subst hfr
            rcases hR.obj g _ hgg with hk | ⟨cg, fr, g1, g2, g3, g4, g5, _, _⟩
            · cases hk
            have hfr := g4 (by simp)
            subst hfr
            have hel : elSize Tryz.prog 5 = 1 := by kernel_rfl
            have g5 := g5 rfl
            rw [hel] at g5
            have hc0 := h3 0 _ rfl
            have hc1 := h3 1 _ rfl
            rw [o0] at hc0 hc1
            have hcs : cb.size = 2 := by rw [cs]; rfl
            have hargs : (⟨[Value.pointer (some ⟨id, 0, none⟩)].map (ren σ)⟩ : Array Value) = #[.pointer (some ⟨(σ id).blk, 0, none⟩)] := by
              simp [ren, renAddr, o0]
            rw [hargs]
            have hcap : renCap σ g OPEN = (σ g).cap := by unfold renCap; rw [if_neg (Nat.lt_irrefl _), Nat.sub_self, Nat.sub_zero]
            have hrs : ren σ (.slice (some ⟨g, 0, none⟩) l.length OPEN) = .slice (some ⟨(σ g).blk, (σ g).off, none⟩) l.length (σ g).cap := by
              simp [ren, renAddr, hcap]
            rw [hrs] at hc1
            have hbk : w.heap[(σ id).blk]? = some (.cells #[ren σ p, .slice (some ⟨(σ g).blk, (σ g).off, none⟩) l.length (σ g).cap] 237 (0, 0)) := by
              rw [h1]
              refine congrArg some (congrArg (fun c => Obj.cells c 237 (0, 0)) ?_)
              apply Array.ext
              · rw [hcs]; rfl
              · intro j hj hj'
                match j, hj, hj' with
                | 0, hj, _ =>
                  rw [Array.getElem?_eq_getElem hj] at hc0
                  exact Option.some.inj hc0
                | 1, hj, _ =>
                  rw [Array.getElem?_eq_getElem hj] at hc1
                  exact Option.some.inj hc1
                | j + 2, hj, _ => omega
            refine (bstr_walk (σ id).blk (σ g).blk (σ g).off (σ g).cap (ren σ p) cg l w (fun e => by rw [e] at h0; simp at h0) hbk g1 (by omega) (by omega) (by omega) (fun j x hj => ?_)).mono fun en w' hen => ?_
            · have := g3 j _ (e2 j x hj)
              rw [ren_clo _ _ rfl] at this
              exact this
            obtain ⟨rfl, rfl⟩ := hen
            obtain ⟨r, s⟩ := hR.lost (elem := 5) (w' := w.drew.freeze ⟨(σ g).blk, (σ g).off, none⟩ l.length) hgg rfl (fun b hb => by
                unfold World.freeze
                rw [if_neg (by omega)]
                simp only [Array.getElem?_modify]
                rw [if_neg (Ne.symm hb)]
                rfl) (by
                unfold World.freeze
                rw [if_neg (by omega)]
                simp) (by unfold World.freeze; rw [if_neg (by omega)]; rfl) (by unfold World.freeze; rw [if_neg (by omega)]; rfl) (by unfold World.freeze; rw [if_neg (by omega)]; rfl)
            exact ⟨σ, rfl, r, s, .clo rfl⟩
          · exact absurd rfl h
        · exact absurd rfl h
      · exact absurd rfl h
    · exact absurd rfl h
  · exact absurd rfl h
end
end Go.Proofs.YtibeinbfhhoeiaaGreatDoor.Ab

/- Walks of layer 19, 2: a size as text. Plain laws of layer 19, 1: a numeral read back; a size's text, part by part. Walks of layer 19, 3: SizeText. -/
import Derived.Test.YtibeinbfhhoeiaaGreatDoorZK
import Derived.Test.YtibeinbfhhoeiaaGreatDoorZJ4
namespace Go.Proofs.YtibeinbfhhoeiaaGreatDoor.Ab
open Go Go.Proofs
noncomputable section
def nm0 : List UInt8 := [115, 116, 97, 116, 101, 115, 32]
def nm1 : List UInt8 := [44, 32, 101, 100, 103, 101, 115, 32]
def nm2 : List UInt8 := [44, 32, 99, 97, 108, 108, 115, 32]
def nm3 : List UInt8 := [44, 32, 112, 111, 112, 115, 32]
def nm4 : List UInt8 := [44, 32, 97, 117, 116, 111, 109, 97, 116, 97, 32]
def textL (a b c d e : Int) : List UInt8 := nm0 ++ (Lib.itoa a ++ (nm1 ++ (Lib.itoa b ++ (nm2 ++ (Lib.itoa c ++ (nm3 ++ (Lib.itoa d ++ (nm4 ++ Lib.itoa e))))))))
theorem itoaS_size {n : Int} (h0 : -9223372036854775808 ≤ n) (h1 : n ≤ 9223372036854775807) : (itoaS n).size ≤ 21 := Lib.itoa_length_le n h0 h1
theorem app_size (x y : ByteArray) : (⟨⟨x.data.toList ++ y.data.toList⟩⟩ : ByteArray).size = x.size + y.size := by
  show (x.data.toList ++ y.data.toList).length = _
  rw [List.length_append]; rfl
def I64 (n : Int) : Prop := -9223372036854775808 ≤ n ∧ n ≤ 9223372036854775807
attribute [local irreducible] J Con Lv CallJ DCon DrawP

set_option maxHeartbeats 1000000 in
theorem f12_ok {hk : HKT} (U : HkU hk) (M : Imm) (hT : TabM M) {a b c d e : Int} (ha : I64 a) (hb : I64 b) (hc : I64 c) (hd : I64 d) (he : I64 e) :
    Con Tryz.prog hk 12 [.agg ⟨[.int .i64 a, .int .i64 b, .int .i64 c, .int .i64 d, .int .i64 e]⟩] M [] (Gives (.string ⟨⟨textL a b c d e⟩⟩) []) := by
  refine Con.of_body (U.no 12 rfl) Tryz.func12 rfl rfl Tryz.ntmps12 rfl rfl ?_
  have hn := U.n
  have sa : (itoaS a).data.size ≤ 21 := itoaS_size ha.1 ha.2
  have sb : (itoaS b).data.size ≤ 21 := itoaS_size hb.1 hb.2
  have sc : (itoaS c).data.size ≤ 21 := itoaS_size hc.1 hc.2
  have sd : (itoaS d).data.size ≤ 21 := itoaS_size hd.1 hd.2
  have se : (itoaS e).data.size ≤ 21 := itoaS_size he.1 he.2
  repeat' (first | rfl | assumption | (apply stp tt_ok; constructor) | exact Rng.mk (by omega) (by omega) | exact Bd.mk (by first | omega | (refine Nat.lt_of_lt_of_le (show _ < 1 by decide) ?_; first | omega | (rw [List.length_replicate]; omega)) | (refine Nat.lt_of_lt_of_le (show _ < 2 by decide) ?_; first | omega | (rw [List.length_replicate]; omega)) | (simp only [List.length_cons, List.length_nil]; omega)) | refine J.draw (by assumption) follows_ok (by kernel_rfl) (by decide +kernel) (by decide +kernel) ?_ | refine J.done ⟨rfl, rfl, rfl, ?_⟩ | constructor | (intro _; exfalso; omega) | intro _)
  rename_i id1
  refine J.drawP (fun i => memN i [6, 11, 16, 21]) [(id1, .row [.int .i64 a, .int .i64 b, .int .i64 c, .int .i64 d, .int .i64 e] 34 .fixed)] follows_ok (by kernel_rfl) (.cons .here .nil) ?_
  refine DrawP.segN tt_ok hn 2 [] rfl rfl (by decide +kernel) ?_
  repeat' (first | rfl | assumption | (apply stp tt_ok; constructor) | exact Rng.mk (by omega) (by omega) | exact Bd.mk (by first | omega | (refine Nat.lt_of_lt_of_le (show _ < 1 by decide) ?_; first | omega | (rw [List.length_replicate]; omega)) | (refine Nat.lt_of_lt_of_le (show _ < 2 by decide) ?_; first | omega | (rw [List.length_replicate]; omega)) | (simp only [List.length_cons, List.length_nil]; omega)) | refine J.draw (by assumption) follows_ok (by kernel_rfl) (by decide +kernel) (by decide +kernel) ?_ | refine J.done ⟨rfl, rfl, rfl, ?_⟩ | constructor | (intro _; exfalso; omega) | intro _)
  refine DrawP.segE hn rfl (by decide +kernel) ?_
  repeat' (first | rfl | assumption | (apply stp tt_ok; constructor) | exact Rng.mk (by omega) (by omega) | exact Bd.mk (by first | omega | (refine Nat.lt_of_lt_of_le (show _ < 1 by decide) ?_; first | omega | (rw [List.length_replicate]; omega)) | (refine Nat.lt_of_lt_of_le (show _ < 2 by decide) ?_; first | omega | (rw [List.length_replicate]; omega)) | (simp only [List.length_cons, List.length_nil]; omega)) | refine J.draw (by assumption) follows_ok (by kernel_rfl) (by decide +kernel) (by decide +kernel) ?_ | refine J.done ⟨rfl, rfl, rfl, ?_⟩ | constructor | (intro _; exfalso; omega) | intro _)
  refine CallJ.val (U.itoa M hT a ha.1 ha.2) ?_
  repeat' (first | rfl | assumption | (apply stp tt_ok; constructor) | exact Rng.mk (by omega) (by omega) | exact Bd.mk (by first | omega | (refine Nat.lt_of_lt_of_le (show _ < 1 by decide) ?_; first | omega | (rw [List.length_replicate]; omega)) | (refine Nat.lt_of_lt_of_le (show _ < 2 by decide) ?_; first | omega | (rw [List.length_replicate]; omega)) | (simp only [List.length_cons, List.length_nil]; omega)) | refine J.draw (by assumption) follows_ok (by kernel_rfl) (by decide +kernel) (by decide +kernel) ?_ | refine J.done ⟨rfl, rfl, rfl, ?_⟩ | constructor | (intro _; exfalso; omega) | intro _)
  refine DrawP.segN tt_ok hn 4 [6] rfl rfl (by decide +kernel) ?_
  repeat' (first | rfl | assumption | (apply stp tt_ok; constructor) | exact Rng.mk (by omega) (by omega) | exact Bd.mk (by first | omega | (refine Nat.lt_of_lt_of_le (show _ < 1 by decide) ?_; first | omega | (rw [List.length_replicate]; omega)) | (refine Nat.lt_of_lt_of_le (show _ < 2 by decide) ?_; first | omega | (rw [List.length_replicate]; omega)) | (simp only [List.length_cons, List.length_nil]; omega)) | refine J.draw (by assumption) follows_ok (by kernel_rfl) (by decide +kernel) (by decide +kernel) ?_ | refine J.done ⟨rfl, rfl, rfl, ?_⟩ | constructor | (intro _; exfalso; omega) | intro _)
  · exact Nat.ble_eq_true_of_le (by simp only [app_size, ByteArray.size, List.size_toArray, List.length_cons, List.length_nil, List.length_append, Array.length_toList]; omega)
  · exact Nat.ble_eq_true_of_le (by simp only [app_size, ByteArray.size, List.size_toArray, List.length_cons, List.length_nil, List.length_append, Array.length_toList]; omega)
  refine DrawP.segE hn rfl (by decide +kernel) ?_
  repeat' (first | rfl | assumption | (apply stp tt_ok; constructor) | exact Rng.mk (by omega) (by omega) | exact Bd.mk (by first | omega | (refine Nat.lt_of_lt_of_le (show _ < 1 by decide) ?_; first | omega | (rw [List.length_replicate]; omega)) | (refine Nat.lt_of_lt_of_le (show _ < 2 by decide) ?_; first | omega | (rw [List.length_replicate]; omega)) | (simp only [List.length_cons, List.length_nil]; omega)) | refine J.draw (by assumption) follows_ok (by kernel_rfl) (by decide +kernel) (by decide +kernel) ?_ | refine J.done ⟨rfl, rfl, rfl, ?_⟩ | constructor | (intro _; exfalso; omega) | intro _)
  refine CallJ.val (U.itoa M hT b hb.1 hb.2) ?_
  repeat' (first | rfl | assumption | (apply stp tt_ok; constructor) | exact Rng.mk (by omega) (by omega) | exact Bd.mk (by first | omega | (refine Nat.lt_of_lt_of_le (show _ < 1 by decide) ?_; first | omega | (rw [List.length_replicate]; omega)) | (refine Nat.lt_of_lt_of_le (show _ < 2 by decide) ?_; first | omega | (rw [List.length_replicate]; omega)) | (simp only [List.length_cons, List.length_nil]; omega)) | refine J.draw (by assumption) follows_ok (by kernel_rfl) (by decide +kernel) (by decide +kernel) ?_ | refine J.done ⟨rfl, rfl, rfl, ?_⟩ | constructor | (intro _; exfalso; omega) | intro _)
  refine DrawP.segN tt_ok hn 4 [11] rfl rfl (by decide +kernel) ?_
  repeat' (first | rfl | assumption | (apply stp tt_ok; constructor) | exact Rng.mk (by omega) (by omega) | exact Bd.mk (by first | omega | (refine Nat.lt_of_lt_of_le (show _ < 1 by decide) ?_; first | omega | (rw [List.length_replicate]; omega)) | (refine Nat.lt_of_lt_of_le (show _ < 2 by decide) ?_; first | omega | (rw [List.length_replicate]; omega)) | (simp only [List.length_cons, List.length_nil]; omega)) | refine J.draw (by assumption) follows_ok (by kernel_rfl) (by decide +kernel) (by decide +kernel) ?_ | refine J.done ⟨rfl, rfl, rfl, ?_⟩ | constructor | (intro _; exfalso; omega) | intro _)
  · exact Nat.ble_eq_true_of_le (by simp only [app_size, ByteArray.size, List.size_toArray, List.length_cons, List.length_nil, List.length_append, Array.length_toList]; omega)
  · exact Nat.ble_eq_true_of_le (by simp only [app_size, ByteArray.size, List.size_toArray, List.length_cons, List.length_nil, List.length_append, Array.length_toList]; omega)
  refine DrawP.segE hn rfl (by decide +kernel) ?_
  repeat' (first | rfl | assumption | (apply stp tt_ok; constructor) | exact Rng.mk (by omega) (by omega) | exact Bd.mk (by first | omega | (refine Nat.lt_of_lt_of_le (show _ < 1 by decide) ?_; first | omega | (rw [List.length_replicate]; omega)) | (refine Nat.lt_of_lt_of_le (show _ < 2 by decide) ?_; first | omega | (rw [List.length_replicate]; omega)) | (simp only [List.length_cons, List.length_nil]; omega)) | refine J.draw (by assumption) follows_ok (by kernel_rfl) (by decide +kernel) (by decide +kernel) ?_ | refine J.done ⟨rfl, rfl, rfl, ?_⟩ | constructor | (intro _; exfalso; omega) | intro _)
  refine CallJ.val (U.itoa M hT c hc.1 hc.2) ?_
  repeat' (first | rfl | assumption | (apply stp tt_ok; constructor) | exact Rng.mk (by omega) (by omega) | exact Bd.mk (by first | omega | (refine Nat.lt_of_lt_of_le (show _ < 1 by decide) ?_; first | omega | (rw [List.length_replicate]; omega)) | (refine Nat.lt_of_lt_of_le (show _ < 2 by decide) ?_; first | omega | (rw [List.length_replicate]; omega)) | (simp only [List.length_cons, List.length_nil]; omega)) | refine J.draw (by assumption) follows_ok (by kernel_rfl) (by decide +kernel) (by decide +kernel) ?_ | refine J.done ⟨rfl, rfl, rfl, ?_⟩ | constructor | (intro _; exfalso; omega) | intro _)
  refine DrawP.segN tt_ok hn 4 [16] rfl rfl (by decide +kernel) ?_
  repeat' (first | rfl | assumption | (apply stp tt_ok; constructor) | exact Rng.mk (by omega) (by omega) | exact Bd.mk (by first | omega | (refine Nat.lt_of_lt_of_le (show _ < 1 by decide) ?_; first | omega | (rw [List.length_replicate]; omega)) | (refine Nat.lt_of_lt_of_le (show _ < 2 by decide) ?_; first | omega | (rw [List.length_replicate]; omega)) | (simp only [List.length_cons, List.length_nil]; omega)) | refine J.draw (by assumption) follows_ok (by kernel_rfl) (by decide +kernel) (by decide +kernel) ?_ | refine J.done ⟨rfl, rfl, rfl, ?_⟩ | constructor | (intro _; exfalso; omega) | intro _)
  · exact Nat.ble_eq_true_of_le (by simp only [app_size, ByteArray.size, List.size_toArray, List.length_cons, List.length_nil, List.length_append, Array.length_toList]; omega)
  · exact Nat.ble_eq_true_of_le (by simp only [app_size, ByteArray.size, List.size_toArray, List.length_cons, List.length_nil, List.length_append, Array.length_toList]; omega)
  refine DrawP.segE hn rfl (by decide +kernel) ?_
  repeat' (first | rfl | assumption | (apply stp tt_ok; constructor) | exact Rng.mk (by omega) (by omega) | exact Bd.mk (by first | omega | (refine Nat.lt_of_lt_of_le (show _ < 1 by decide) ?_; first | omega | (rw [List.length_replicate]; omega)) | (refine Nat.lt_of_lt_of_le (show _ < 2 by decide) ?_; first | omega | (rw [List.length_replicate]; omega)) | (simp only [List.length_cons, List.length_nil]; omega)) | refine J.draw (by assumption) follows_ok (by kernel_rfl) (by decide +kernel) (by decide +kernel) ?_ | refine J.done ⟨rfl, rfl, rfl, ?_⟩ | constructor | (intro _; exfalso; omega) | intro _)
  refine CallJ.val (U.itoa M hT d hd.1 hd.2) ?_
  repeat' (first | rfl | assumption | (apply stp tt_ok; constructor) | exact Rng.mk (by omega) (by omega) | exact Bd.mk (by first | omega | (refine Nat.lt_of_lt_of_le (show _ < 1 by decide) ?_; first | omega | (rw [List.length_replicate]; omega)) | (refine Nat.lt_of_lt_of_le (show _ < 2 by decide) ?_; first | omega | (rw [List.length_replicate]; omega)) | (simp only [List.length_cons, List.length_nil]; omega)) | refine J.draw (by assumption) follows_ok (by kernel_rfl) (by decide +kernel) (by decide +kernel) ?_ | refine J.done ⟨rfl, rfl, rfl, ?_⟩ | constructor | (intro _; exfalso; omega) | intro _)
  refine DrawP.segN tt_ok hn 4 [21] rfl rfl (by decide +kernel) ?_
  repeat' (first | rfl | assumption | (apply stp tt_ok; constructor) | exact Rng.mk (by omega) (by omega) | exact Bd.mk (by first | omega | (refine Nat.lt_of_lt_of_le (show _ < 1 by decide) ?_; first | omega | (rw [List.length_replicate]; omega)) | (refine Nat.lt_of_lt_of_le (show _ < 2 by decide) ?_; first | omega | (rw [List.length_replicate]; omega)) | (simp only [List.length_cons, List.length_nil]; omega)) | refine J.draw (by assumption) follows_ok (by kernel_rfl) (by decide +kernel) (by decide +kernel) ?_ | refine J.done ⟨rfl, rfl, rfl, ?_⟩ | constructor | (intro _; exfalso; omega) | intro _)
  · exact Nat.ble_eq_true_of_le (by simp only [app_size, ByteArray.size, List.size_toArray, List.length_cons, List.length_nil, List.length_append, Array.length_toList]; omega)
  · exact Nat.ble_eq_true_of_le (by simp only [app_size, ByteArray.size, List.size_toArray, List.length_cons, List.length_nil, List.length_append, Array.length_toList]; omega)
  refine DrawP.segE hn rfl (by decide +kernel) ?_
  repeat' (first | rfl | assumption | (apply stp tt_ok; constructor) | exact Rng.mk (by omega) (by omega) | exact Bd.mk (by first | omega | (refine Nat.lt_of_lt_of_le (show _ < 1 by decide) ?_; first | omega | (rw [List.length_replicate]; omega)) | (refine Nat.lt_of_lt_of_le (show _ < 2 by decide) ?_; first | omega | (rw [List.length_replicate]; omega)) | (simp only [List.length_cons, List.length_nil]; omega)) | refine J.draw (by assumption) follows_ok (by kernel_rfl) (by decide +kernel) (by decide +kernel) ?_ | refine J.done ⟨rfl, rfl, rfl, ?_⟩ | constructor | (intro _; exfalso; omega) | intro _)
  refine CallJ.val (U.itoa M hT e he.1 he.2) ?_
  repeat' (first | rfl | assumption | (apply stp tt_ok; constructor) | exact Rng.mk (by omega) (by omega) | exact Bd.mk (by first | omega | (refine Nat.lt_of_lt_of_le (show _ < 1 by decide) ?_; first | omega | (rw [List.length_replicate]; omega)) | (refine Nat.lt_of_lt_of_le (show _ < 2 by decide) ?_; first | omega | (rw [List.length_replicate]; omega)) | (simp only [List.length_cons, List.length_nil]; omega)) | refine J.draw (by assumption) follows_ok (by kernel_rfl) (by decide +kernel) (by decide +kernel) ?_ | refine J.done ⟨rfl, rfl, rfl, ?_⟩ | constructor | (intro _; exfalso; omega) | intro _)
  refine DrawP.segN tt_ok hn 2 [] rfl rfl (by decide +kernel) ?_
  repeat' (first | rfl | assumption | (apply stp tt_ok; constructor) | exact Rng.mk (by omega) (by omega) | exact Bd.mk (by first | omega | (refine Nat.lt_of_lt_of_le (show _ < 1 by decide) ?_; first | omega | (rw [List.length_replicate]; omega)) | (refine Nat.lt_of_lt_of_le (show _ < 2 by decide) ?_; first | omega | (rw [List.length_replicate]; omega)) | (simp only [List.length_cons, List.length_nil]; omega)) | refine J.draw (by assumption) follows_ok (by kernel_rfl) (by decide +kernel) (by decide +kernel) ?_ | refine J.done ⟨rfl, rfl, rfl, ?_⟩ | constructor | (intro _; exfalso; omega) | intro _)
  · exact Nat.ble_eq_true_of_le (by simp only [app_size, ByteArray.size, List.size_toArray, List.length_cons, List.length_nil, List.length_append, Array.length_toList]; omega)
  refine DrawP.done rfl ?_
  repeat' (first | rfl | assumption | (apply stp tt_ok; constructor) | exact Rng.mk (by omega) (by omega) | exact Bd.mk (by first | omega | (refine Nat.lt_of_lt_of_le (show _ < 1 by decide) ?_; first | omega | (rw [List.length_replicate]; omega)) | (refine Nat.lt_of_lt_of_le (show _ < 2 by decide) ?_; first | omega | (rw [List.length_replicate]; omega)) | (simp only [List.length_cons, List.length_nil]; omega)) | refine J.draw (by assumption) follows_ok (by kernel_rfl) (by decide +kernel) (by decide +kernel) ?_ | refine J.done ⟨rfl, rfl, rfl, ?_⟩ | constructor | (intro _; exfalso; omega) | intro _)
  refine J.give0 tt_ok rfl (.cons (.tmp rfl) .nil) ?_
  show Value.string _ = _
  refine congrArg Value.string (congrArg ByteArray.mk (congrArg Array.mk ?_))
  simp only [textL, nm0, nm1, nm2, nm3, nm4, itoaS, List.append_assoc, List.toList_toArray]
end
end Go.Proofs.YtibeinbfhhoeiaaGreatDoor.Ab

namespace Go.Proofs.YtibeinbfhhoeiaaGreatDoor.Ab
open Go Go.Proofs

/- ## a numeral's digits -/
theorem pow_le_nDigits (u : Nat) : 1 < Lib.nDigits u → 10 ^ (Lib.nDigits u - 1) ≤ u := by
  induction u using Nat.strongRecOn with
  | _ u ih =>
    intro h1
    by_cases h : u < 10
    · rw [Lib.nDigits_small h] at h1; omega
    · rw [Lib.nDigits_big h] at h1 ⊢
      by_cases h2 : 1 < Lib.nDigits (u / 10)
      · have := ih (u / 10) (by omega) h2
        rw [show Lib.nDigits (u / 10) + 1 - 1 = (Lib.nDigits (u / 10) - 1) + 1 by omega, Nat.pow_succ]
        omega
      · have h3 : Lib.nDigits (u / 10) = 1 := by have := Lib.nDigits_pos (u / 10); omega
        rw [h3]
        simp
        omega
/-- What the first k digits of u say. -/
def headN (u k : Nat) : Nat := u / 10 ^ (Lib.nDigits u - k)
theorem headN_zero (u : Nat) : headN u 0 = 0 := by
  unfold headN
  rw [Nat.sub_zero]
  exact Nat.div_eq_of_lt (Lib.lt_pow_nDigits u)
theorem headN_all (u : Nat) : headN u (Lib.nDigits u) = u := by
  unfold headN
  rw [Nat.sub_self, Nat.pow_zero, Nat.div_one]
theorem headN_le (u k : Nat) : headN u k ≤ u := Nat.div_le_self _ _
theorem digit_at {u k : Nat} (h : k < Lib.nDigits u) : ∃ c d, (Lib.decDigits u)[k]? = some c ∧ d < 10 ∧ c.toNat = 48 + d ∧ headN u (k + 1) = 10 * headN u k + d ∧ (k = 0 → 1 < Lib.nDigits u → d ≠ 0) := by
  refine ⟨UInt8.ofNat (48 + u / 10 ^ (Lib.nDigits u - 1 - k) % 10), u / 10 ^ (Lib.nDigits u - 1 - k) % 10, ?_, Nat.mod_lt _ (by omega), ?_, ?_, ?_⟩
  · rw [Lib.decDigits_eq]
    simp [h, Lib.dg]
  · have := Nat.mod_lt (u / 10 ^ (Lib.nDigits u - 1 - k)) (show 10 > 0 by omega)
    rw [UInt8.toNat_ofNat']
    omega
  · unfold headN
    have e1 : Lib.nDigits u - (k + 1) = Lib.nDigits u - 1 - k := by omega
    have e2 : Lib.nDigits u - k = (Lib.nDigits u - 1 - k) + 1 := by omega
    rw [e1, e2, Nat.pow_succ, ← Nat.div_div_eq_div_mul]
    omega
  · rintro rfl h1
    have h2 := pow_le_nDigits u h1
    have h3 := Lib.lt_pow_nDigits u
    have e : Lib.nDigits u = (Lib.nDigits u - 1) + 1 := by omega
    rw [e, Nat.pow_succ] at h3
    rw [Nat.sub_zero]
    have hp : 0 < 10 ^ (Lib.nDigits u - 1) := Nat.pow_pos (by omega)
    have h4 : 1 ≤ u / 10 ^ (Lib.nDigits u - 1) := (Nat.one_le_div_iff hp).2 h2
    have h5 : u / 10 ^ (Lib.nDigits u - 1) < 10 := Nat.div_lt_of_lt_mul (by omega)
    omega

/- ## the text's parts -/
def nmAt : Nat → List UInt8
  | 0 => nm0
  | 1 => nm1
  | 2 => nm2
  | 3 => nm3
  | _ => nm4
section
variable (a b c d e : Int)
def vAt : Nat → Int
  | 0 => a
  | 1 => b
  | 2 => c
  | 3 => d
  | _ => e
def tailAt : Nat → List UInt8
  | 0 => textL a b c d e
  | 1 => nm1 ++ (Lib.itoa b ++ (nm2 ++ (Lib.itoa c ++ (nm3 ++ (Lib.itoa d ++ (nm4 ++ Lib.itoa e))))))
  | 2 => nm2 ++ (Lib.itoa c ++ (nm3 ++ (Lib.itoa d ++ (nm4 ++ Lib.itoa e))))
  | 3 => nm3 ++ (Lib.itoa d ++ (nm4 ++ Lib.itoa e))
  | 4 => nm4 ++ Lib.itoa e
  | _ => []
variable {a b c d e}
theorem tail_step {i : Nat} (h : i < 5) : tailAt a b c d e i = nmAt i ++ (Lib.itoa (vAt a b c d e i) ++ tailAt a b c d e (i + 1)) := by
  match i, h with
  | 0, _ => rfl
  | 1, _ => rfl
  | 2, _ => rfl
  | 3, _ => rfl
  | 4, _ => simp [tailAt, nmAt, vAt]
theorem tail_end {i : Nat} (h : i < 5) : tailAt a b c d e (i + 1) = [] ∨ ∃ r, tailAt a b c d e (i + 1) = 44 :: r := by
  match i, h with
  | 0, _ => exact .inr ⟨_, rfl⟩
  | 1, _ => exact .inr ⟨_, rfl⟩
  | 2, _ => exact .inr ⟨_, rfl⟩
  | 3, _ => exact .inr ⟨_, rfl⟩
  | 4, _ => exact .inl rfl
theorem tail_five : tailAt a b c d e 5 = [] := rfl
theorem names_at {i : Nat} (h : i < 5) : takeX 1 ([Value.string ⟨⟨nm0⟩⟩, .string ⟨⟨nm1⟩⟩, .string ⟨⟨nm2⟩⟩, .string ⟨⟨nm3⟩⟩, .string ⟨⟨nm4⟩⟩].drop (0 + i * 1)) = some [.string ⟨⟨nmAt i⟩⟩] := by
  match i, h with
  | 0, _ => rfl
  | 1, _ => rfl
  | 2, _ => rfl
  | 3, _ => rfl
  | 4, _ => rfl
theorem vals_at {i : Nat} (h : i < 5) : takeX 1 ([Value.int .i64 a, .int .i64 b, .int .i64 c, .int .i64 d, .int .i64 e].drop (0 + i * 1)) = some [.int .i64 (vAt a b c d e i)] := by
  match i, h with
  | 0, _ => rfl
  | 1, _ => rfl
  | 2, _ => rfl
  | 3, _ => rfl
  | 4, _ => rfl
theorem vAt_64 (ha : I64 a) (hb : I64 b) (hc : I64 c) (hd : I64 d) (he : I64 e) (i : Nat) : I64 (vAt a b c d e i) := by
  unfold vAt
  split <;> assumption
theorem nmAt_le (i : Nat) : 1 ≤ (nmAt i).length ∧ (nmAt i).length ≤ 11 := by
  unfold nmAt
  split <;> exact ⟨by decide, by decide⟩
theorem textL_le (ha : I64 a) (hb : I64 b) (hc : I64 c) (hd : I64 d) (he : I64 e) : (textL a b c d e).length ≤ 1000 := by
  have h1 := Lib.itoa_length_le a ha.1 ha.2
  have h2 := Lib.itoa_length_le b hb.1 hb.2
  have h3 := Lib.itoa_length_le c hc.1 hc.2
  have h4 := Lib.itoa_length_le d hd.1 hd.2
  have h5 := Lib.itoa_length_le e he.1 he.2
  simp only [textL, nm0, nm1, nm2, nm3, nm4, List.length_append, List.length_cons, List.length_nil]
  omega
end
end Go.Proofs.YtibeinbfhhoeiaaGreatDoor.Ab

namespace Go.Proofs.YtibeinbfhhoeiaaGreatDoor.Ab
open Go Go.Proofs
noncomputable section
theorem drop_at {TL nm r : List UInt8} {p : Nat} (h : TL.drop p = nm ++ r) (j : Nat) : TL[p + nm.length + j]? = r[j]? := by
  rw [Nat.add_assoc, ← List.getElem?_drop, h, List.getElem?_append_right (by omega), Nat.add_sub_cancel_left]
theorem tdiv10 {m : Nat} : (-(m : Int)).tdiv 10 = -((m / 10 : Nat) : Int) := by
  rw [Int.neg_tdiv]; rfl
attribute [local irreducible] J Con Lv CallJ DCon DrawP

set_option maxHeartbeats 4000000 in
theorem f5_ok {hk : HKT} (U : HkU hk) (M : Imm) (hT : TabM M) {a b c d e : Int} (ha : I64 a) (hb : I64 b) (hc : I64 c) (hd : I64 d) (he : I64 e) :
    Con Tryz.prog hk 5 [.agg ⟨[.int .i64 a, .int .i64 b, .int .i64 c, .int .i64 d, .int .i64 e]⟩] M [] (Gives (.bool true) []) := by
  refine Con.of_body (U.no 5 rfl) Tryz.func5 rfl rfl Tryz.ntmps5 rfl rfl ?_
  have hn := U.n
  repeat' (first | rfl | assumption | (apply stp tt_ok; constructor) | exact Rng.mk (by omega) (by omega) | exact Bd.mk (by first | omega | (refine Nat.lt_of_lt_of_le (show _ < 1 by decide) ?_; first | omega | (rw [List.length_replicate]; omega)) | (refine Nat.lt_of_lt_of_le (show _ < 2 by decide) ?_; first | omega | (rw [List.length_replicate]; omega)) | (simp only [List.length_cons, List.length_nil]; omega)) | refine J.draw (by assumption) follows_ok (by kernel_rfl) (by decide +kernel) (by decide +kernel) ?_ | refine J.done ⟨rfl, rfl, rfl, ?_⟩ | constructor | (intro _; exfalso; omega) | intro _)
  refine CallJ.val (f12_ok U M hT ha hb hc hd he) ?_
  have hTl := textL_le ha hb hc hd he
  have h64 := vAt_64 ha hb hc hd he
  have hTs : (⟨⟨textL a b c d e⟩⟩ : ByteArray).size = (textL a b c d e).length := rfl
  repeat' (first | rfl | assumption | (apply stp tt_ok; constructor) | exact Rng.mk (by omega) (by omega) | exact Bd.mk (by first | omega | (refine Nat.lt_of_lt_of_le (show _ < 1 by decide) ?_; first | omega | (rw [List.length_replicate]; omega)) | (refine Nat.lt_of_lt_of_le (show _ < 2 by decide) ?_; first | omega | (rw [List.length_replicate]; omega)) | (simp only [List.length_cons, List.length_nil]; omega)) | refine J.draw (by assumption) follows_ok (by kernel_rfl) (by decide +kernel) (by decide +kernel) ?_ | refine J.done ⟨rfl, rfl, rfl, ?_⟩ | constructor | (intro _; exfalso; omega) | intro _)
  rename_i id1 id3 id4
  refine J.keep [7, 6, 5, 4, 3] rfl ?_
  refine J.forN 5 (fun i E L => ∃ p : Nat, E = [(7, .int .i64 (i : Int)), (6, .int .i64 (p : Int)), (5, .string ⟨⟨textL a b c d e⟩⟩), (4, .pointer (some ⟨id4, 0, none⟩)), (3, .pointer (some ⟨id3, 0, none⟩))] ∧
    L = [[(id4, .row [.string ⟨⟨nm0⟩⟩, .string ⟨⟨nm1⟩⟩, .string ⟨⟨nm2⟩⟩, .string ⟨⟨nm3⟩⟩, .string ⟨⟨nm4⟩⟩] 49 .fixed)], [(id3, .row [.int .i64 a, .int .i64 b, .int .i64 c, .int .i64 d, .int .i64 e] 48 .fixed)], [(id1, .row [.int .i64 a, .int .i64 b, .int .i64 c, .int .i64 d, .int .i64 e] 34 .fixed)], []] ∧
    p ≤ (textL a b c d e).length ∧ (textL a b c d e).drop p = tailAt a b c d e i)
    ⟨0, rfl, rfl, Nat.zero_le _, rfl⟩ ?_
  rintro i E L hi' ⟨p, rfl, rfl, hp, htl⟩ ih
  by_cases hlt : i < 5
  · have hN := names_at hlt
    have hV := vals_at (a := a) (b := b) (c := c) (d := d) (e := e) hlt
    have hst := tail_step (a := a) (b := b) (c := c) (d := d) (e := e) hlt
    have hend := tail_end (a := a) (b := b) (c := c) (d := d) (e := e) hlt
    obtain ⟨hv0, hv1⟩ := h64 i
    obtain ⟨hnl, hnl2⟩ := nmAt_le i
    have hil := Lib.itoa_length_le (vAt a b c d e i) hv0 hv1
    rw [hst] at htl
    have hlen := congrArg List.length htl
    rw [List.length_drop, List.length_append, List.length_append] at hlen
    generalize nmAt i = nm at *
    generalize vAt a b c d e i = v at *
    generalize tailAt a b c d e (i + 1) = tl at *
    generalize hTT : textL a b c d e = TL at *
    have hsz : (⟨⟨nm⟩⟩ : ByteArray).size = nm.length := rfl
    have hx1 : IsN ((p : Int) + ((⟨⟨nm⟩⟩ : ByteArray).size : Int)) (p + nm.length) := by unfold IsN; rw [hsz]; omega
    have heq : (⟨⟨((⟨⟨TL⟩⟩ : ByteArray).data.toList.drop p).take (p + nm.length - p)⟩⟩ : ByteArray) = ⟨⟨nm⟩⟩ := by
      refine congrArg ByteArray.mk (congrArg Array.mk ?_)
      show (TL.drop p).take (p + nm.length - p) = nm
      rw [htl, Nat.add_sub_cancel_left, List.take_left]
    repeat' (first | rfl | assumption | (apply stp tt_ok; constructor) | exact Rng.mk (by omega) (by omega) | exact Bd.mk (by first | omega | (refine Nat.lt_of_lt_of_le (show _ < 1 by decide) ?_; first | omega | (rw [List.length_replicate]; omega)) | (refine Nat.lt_of_lt_of_le (show _ < 2 by decide) ?_; first | omega | (rw [List.length_replicate]; omega)) | (simp only [List.length_cons, List.length_nil]; omega)) | refine J.draw (by assumption) follows_ok (by kernel_rfl) (by decide +kernel) (by decide +kernel) ?_ | refine J.done ⟨rfl, rfl, rfl, ?_⟩ | constructor | (intro _; exfalso; omega) | intro _)
    refine J.drawQ tt_ok follows_ok ?_ ?_ ?_ ?_ ?_
    · kernel_rfl
    · kernel_rfl
    · decide +kernel
    · decide +kernel
    by_cases hneg : v < 0
    · obtain ⟨u, rfl⟩ : ∃ u : Nat, v = -(u : Int) := ⟨v.natAbs, by omega⟩
      have hit : Lib.itoa (-(u : Int)) = 45 :: Lib.decDigits u := Lib.itoa_neg u (by omega)
      rw [hit] at htl hlen
      rw [List.length_cons, Lib.decDigits_length] at hlen
      obtain ⟨c0, hc0, hb0⟩ : ∃ c0 : UInt8, (c0.toNat : Int) = 45 ∧ (⟨⟨TL⟩⟩ : ByteArray).data.toList[p + nm.length]? = some c0 := ⟨45, rfl, drop_at htl 0⟩
      have hdig : ∀ k, TL[p + nm.length + 1 + k]? = (Lib.decDigits u ++ tl)[k]? := fun k => by
        rw [Nat.add_assoc, Nat.add_comm 1 k]; exact drop_at htl (k + 1)
      have hdrop : TL.drop (p + nm.length + 1 + Lib.nDigits u) = tl := by
        rw [show p + nm.length + 1 + Lib.nDigits u = p + (nm ++ 45 :: Lib.decDigits u).length by simp only [List.length_append, List.length_cons, Lib.decDigits_length]; omega, ← List.drop_drop, htl,
          show nm ++ (45 :: Lib.decDigits u ++ tl) = (nm ++ 45 :: Lib.decDigits u) ++ tl by simp, List.drop_left]
      have hq : (p : Int) + ((⟨⟨nm⟩⟩ : ByteArray).size : Int) + 1 = ((p + nm.length + 1 : Nat) : Int) := by rw [hsz]; omega
      have hL := Lib.nDigits_pos u
      have hall := headN_all u
      repeat' (first | rfl | assumption | (apply stp tt_ok; constructor) | exact Rng.mk (by omega) (by omega) | exact Bd.mk (by first | omega | (refine Nat.lt_of_lt_of_le (show _ < 1 by decide) ?_; first | omega | (rw [List.length_replicate]; omega)) | (refine Nat.lt_of_lt_of_le (show _ < 2 by decide) ?_; first | omega | (rw [List.length_replicate]; omega)) | (simp only [List.length_cons, List.length_nil]; omega)) | refine J.draw (by assumption) follows_ok (by kernel_rfl) (by decide +kernel) (by decide +kernel) ?_ | refine J.done ⟨rfl, rfl, rfl, ?_⟩ | constructor | (intro _; exfalso; omega) | intro _)
      any_goals (refine absurd heq ?_; assumption)
      rw [hq]
      generalize hF : p + nm.length + 1 = F at *
      obtain ⟨c1, d1, hc1, hd1, hcd1, _, hne1⟩ := digit_at (u := u) (k := 0) (by omega)
      have hb1 : (⟨⟨TL⟩⟩ : ByteArray).data.toList[F]? = some c1 := by
        show TL[F + 0]? = _
        rw [hdig, List.getElem?_append_left (by rw [Lib.decDigits_length]; exact hL), hc1]
      refine J.keep [10, 9, 8, 7, 6, 5, 4, 3] rfl ?_
      refine J.forN (Lib.nDigits u) (fun k E L => E = [(10, .int .i64 (-(headN u k : Int))), (9, .int .i64 (F : Int)), (8, .bool true), (7, .int .i64 (i : Int)), (6, .int .i64 ((F + k : Nat) : Int)), (5, .string ⟨⟨TL⟩⟩), (4, .pointer (some ⟨id4, 0, none⟩)), (3, .pointer (some ⟨id3, 0, none⟩))] ∧
        L = [[(id4, .row [.string ⟨⟨nm0⟩⟩, .string ⟨⟨nm1⟩⟩, .string ⟨⟨nm2⟩⟩, .string ⟨⟨nm3⟩⟩, .string ⟨⟨nm4⟩⟩] 49 .fixed)], [(id3, .row [.int .i64 a, .int .i64 b, .int .i64 c, .int .i64 d, .int .i64 e] 48 .fixed)], [(id1, .row [.int .i64 a, .int .i64 b, .int .i64 c, .int .i64 d, .int .i64 e] 34 .fixed)], []]) ⟨by rw [headN_zero]; rfl, rfl⟩ ?_
      rintro k E L hk' ⟨rfl, rfl⟩ ih2
      by_cases hkl : k < Lib.nDigits u
      · obtain ⟨ck, dk, hck, hdk, hcd, hq1, _⟩ := digit_at hkl
        have hbk : (⟨⟨TL⟩⟩ : ByteArray).data.toList[F + k]? = some ck := by
          show TL[F + k]? = _
          rw [hdig, List.getElem?_append_left (by rw [Lib.decDigits_length]; exact hkl), hck]
        have hFk : F + k < TL.length := (List.getElem?_eq_some_iff.1 hbk).1
        have hle := headN_le u (k + 1)
        have hsub : 0 ≤ (ck.toNat : Int) - 48 ∧ (ck.toNat : Int) - 48 ≤ 255 := by omega
        have hte : (-9223372036854775808 + ((ck.toNat : Int) - 48)).tdiv 10 = -(((9223372036854775808 - dk) / 10 : Nat) : Int) := by
          rw [← tdiv10]; congr 1; omega
        have htd : ¬ (-(headN u k : Int) < (-9223372036854775808 + ((ck.toNat : Int) - 48)).tdiv 10) := by rw [hte]; omega
        have hrq : Rng ((-9223372036854775808 + ((ck.toNat : Int) - 48)).tdiv 10) := by rw [hte]; exact Rng.mk (by omega) (by omega)
        repeat' (first | rfl | assumption | (apply stp tt_ok; constructor) | exact Rng.mk (by omega) (by omega) | exact Bd.mk (by first | omega | (refine Nat.lt_of_lt_of_le (show _ < 1 by decide) ?_; first | omega | (rw [List.length_replicate]; omega)) | (refine Nat.lt_of_lt_of_le (show _ < 2 by decide) ?_; first | omega | (rw [List.length_replicate]; omega)) | (simp only [List.length_cons, List.length_nil]; omega)) | refine J.draw (by assumption) follows_ok (by kernel_rfl) (by decide +kernel) (by decide +kernel) ?_ | refine J.done ⟨rfl, rfl, rfl, ?_⟩ | constructor | (intro _; exfalso; omega) | intro _)
        have hv : -(headN u k : Int) * 10 - ((ck.toNat : Int) - 48) = -(headN u (k + 1) : Int) := by omega
        rw [hv]
        exact J.keep [10, 9, 8, 7, 6, 5, 4, 3] rfl (ih2 hkl _ _ ⟨rfl, rfl⟩)
      · obtain rfl : k = Lib.nDigits u := by omega
        rw [hall]
        rcases hend with rfl | ⟨r, rfl⟩
        · simp only [List.length_nil] at hlen
          by_cases hL1 : 1 < Lib.nDigits u
          · have hd1' := hne1 rfl hL1
            repeat' (first | rfl | assumption | (apply stp tt_ok; constructor) | exact Rng.mk (by omega) (by omega) | exact Bd.mk (by first | omega | (refine Nat.lt_of_lt_of_le (show _ < 1 by decide) ?_; first | omega | (rw [List.length_replicate]; omega)) | (refine Nat.lt_of_lt_of_le (show _ < 2 by decide) ?_; first | omega | (rw [List.length_replicate]; omega)) | (simp only [List.length_cons, List.length_nil]; omega)) | refine J.draw (by assumption) follows_ok (by kernel_rfl) (by decide +kernel) (by decide +kernel) ?_ | refine J.done ⟨rfl, rfl, rfl, ?_⟩ | constructor | (intro _; exfalso; omega) | intro _)
            exact J.keep [7, 6, 5, 4, 3] rfl (ih hlt _ _ ⟨F + Lib.nDigits u, rfl, rfl, by omega, hdrop⟩)
          · repeat' (first | rfl | assumption | (apply stp tt_ok; constructor) | exact Rng.mk (by omega) (by omega) | exact Bd.mk (by first | omega | (refine Nat.lt_of_lt_of_le (show _ < 1 by decide) ?_; first | omega | (rw [List.length_replicate]; omega)) | (refine Nat.lt_of_lt_of_le (show _ < 2 by decide) ?_; first | omega | (rw [List.length_replicate]; omega)) | (simp only [List.length_cons, List.length_nil]; omega)) | refine J.draw (by assumption) follows_ok (by kernel_rfl) (by decide +kernel) (by decide +kernel) ?_ | refine J.done ⟨rfl, rfl, rfl, ?_⟩ | constructor | (intro _; exfalso; omega) | intro _)
            exact J.keep [7, 6, 5, 4, 3] rfl (ih hlt _ _ ⟨F + Lib.nDigits u, rfl, rfl, by omega, hdrop⟩)
        · simp only [List.length_cons] at hlen
          obtain ⟨c9, hc9, hb9⟩ : ∃ c9 : UInt8, (c9.toNat : Int) = 44 ∧ (⟨⟨TL⟩⟩ : ByteArray).data.toList[F + Lib.nDigits u]? = some c9 := ⟨44, rfl, by
            show TL[F + Lib.nDigits u]? = _
            rw [hdig, List.getElem?_append_right (by rw [Lib.decDigits_length]; exact Nat.le_refl _), Lib.decDigits_length, Nat.sub_self]; rfl⟩
          by_cases hL1 : 1 < Lib.nDigits u
          · have hd1' := hne1 rfl hL1
            repeat' (first | rfl | assumption | (apply stp tt_ok; constructor) | exact Rng.mk (by omega) (by omega) | exact Bd.mk (by first | omega | (refine Nat.lt_of_lt_of_le (show _ < 1 by decide) ?_; first | omega | (rw [List.length_replicate]; omega)) | (refine Nat.lt_of_lt_of_le (show _ < 2 by decide) ?_; first | omega | (rw [List.length_replicate]; omega)) | (simp only [List.length_cons, List.length_nil]; omega)) | refine J.draw (by assumption) follows_ok (by kernel_rfl) (by decide +kernel) (by decide +kernel) ?_ | refine J.done ⟨rfl, rfl, rfl, ?_⟩ | constructor | (intro _; exfalso; omega) | intro _)
            exact J.keep [7, 6, 5, 4, 3] rfl (ih hlt _ _ ⟨F + Lib.nDigits u, rfl, rfl, by omega, hdrop⟩)
          · repeat' (first | rfl | assumption | (apply stp tt_ok; constructor) | exact Rng.mk (by omega) (by omega) | exact Bd.mk (by first | omega | (refine Nat.lt_of_lt_of_le (show _ < 1 by decide) ?_; first | omega | (rw [List.length_replicate]; omega)) | (refine Nat.lt_of_lt_of_le (show _ < 2 by decide) ?_; first | omega | (rw [List.length_replicate]; omega)) | (simp only [List.length_cons, List.length_nil]; omega)) | refine J.draw (by assumption) follows_ok (by kernel_rfl) (by decide +kernel) (by decide +kernel) ?_ | refine J.done ⟨rfl, rfl, rfl, ?_⟩ | constructor | (intro _; exfalso; omega) | intro _)
            exact J.keep [7, 6, 5, 4, 3] rfl (ih hlt _ _ ⟨F + Lib.nDigits u, rfl, rfl, by omega, hdrop⟩)
    · obtain ⟨u, rfl⟩ : ∃ u : Nat, v = (u : Int) := ⟨v.toNat, by omega⟩
      have hit : Lib.itoa (u : Int) = Lib.decDigits u := Lib.itoa_nonneg u
      rw [hit] at htl hlen
      rw [Lib.decDigits_length] at hlen
      obtain ⟨c0, d0, hc0, hd0, hcd0, _, _⟩ := digit_at (u := u) (k := 0) (by have := Lib.nDigits_pos u; omega)
      have hb0 : (⟨⟨TL⟩⟩ : ByteArray).data.toList[p + nm.length]? = some c0 := by
        show TL[p + nm.length + 0]? = _
        rw [drop_at htl 0, List.getElem?_append_left (by rw [Lib.decDigits_length]; exact Lib.nDigits_pos u), hc0]
      have hdig : ∀ k, TL[p + nm.length + k]? = (Lib.decDigits u ++ tl)[k]? := fun k => drop_at htl k
      have hdrop : TL.drop (p + nm.length + Lib.nDigits u) = tl := by
        rw [show p + nm.length + Lib.nDigits u = p + (nm ++ Lib.decDigits u).length by simp only [List.length_append, Lib.decDigits_length]; omega, ← List.drop_drop, htl, ← List.append_assoc, List.drop_left]
      have hq : (p : Int) + ((⟨⟨nm⟩⟩ : ByteArray).size : Int) = ((p + nm.length : Nat) : Int) := by rw [hsz]; omega
      have hL := Lib.nDigits_pos u
      have hall := headN_all u
      repeat' (first | rfl | assumption | (apply stp tt_ok; constructor) | exact Rng.mk (by omega) (by omega) | exact Bd.mk (by first | omega | (refine Nat.lt_of_lt_of_le (show _ < 1 by decide) ?_; first | omega | (rw [List.length_replicate]; omega)) | (refine Nat.lt_of_lt_of_le (show _ < 2 by decide) ?_; first | omega | (rw [List.length_replicate]; omega)) | (simp only [List.length_cons, List.length_nil]; omega)) | refine J.draw (by assumption) follows_ok (by kernel_rfl) (by decide +kernel) (by decide +kernel) ?_ | refine J.done ⟨rfl, rfl, rfl, ?_⟩ | constructor | (intro _; exfalso; omega) | intro _)
      any_goals (refine absurd heq ?_; assumption)
      rw [hq]
      generalize hF : p + nm.length = F at *
      obtain ⟨c1, d1, hc1, hd1, hcd1, _, hne1⟩ := digit_at (u := u) (k := 0) (by omega)
      have hb1 : (⟨⟨TL⟩⟩ : ByteArray).data.toList[F]? = some c1 := by
        show TL[F + 0]? = _
        rw [hdig, List.getElem?_append_left (by rw [Lib.decDigits_length]; exact hL), hc1]
      refine J.keep [10, 9, 8, 7, 6, 5, 4, 3] rfl ?_
      refine J.forN (Lib.nDigits u) (fun k E L => E = [(10, .int .i64 (-(headN u k : Int))), (9, .int .i64 (F : Int)), (8, .bool false), (7, .int .i64 (i : Int)), (6, .int .i64 ((F + k : Nat) : Int)), (5, .string ⟨⟨TL⟩⟩), (4, .pointer (some ⟨id4, 0, none⟩)), (3, .pointer (some ⟨id3, 0, none⟩))] ∧
        L = [[(id4, .row [.string ⟨⟨nm0⟩⟩, .string ⟨⟨nm1⟩⟩, .string ⟨⟨nm2⟩⟩, .string ⟨⟨nm3⟩⟩, .string ⟨⟨nm4⟩⟩] 49 .fixed)], [(id3, .row [.int .i64 a, .int .i64 b, .int .i64 c, .int .i64 d, .int .i64 e] 48 .fixed)], [(id1, .row [.int .i64 a, .int .i64 b, .int .i64 c, .int .i64 d, .int .i64 e] 34 .fixed)], []]) ⟨by rw [headN_zero]; rfl, rfl⟩ ?_
      rintro k E L hk' ⟨rfl, rfl⟩ ih2
      by_cases hkl : k < Lib.nDigits u
      · obtain ⟨ck, dk, hck, hdk, hcd, hq1, _⟩ := digit_at hkl
        have hbk : (⟨⟨TL⟩⟩ : ByteArray).data.toList[F + k]? = some ck := by
          show TL[F + k]? = _
          rw [hdig, List.getElem?_append_left (by rw [Lib.decDigits_length]; exact hkl), hck]
        have hFk : F + k < TL.length := (List.getElem?_eq_some_iff.1 hbk).1
        have hle := headN_le u (k + 1)
        have hsub : 0 ≤ (ck.toNat : Int) - 48 ∧ (ck.toNat : Int) - 48 ≤ 255 := by omega
        have hte : (-9223372036854775808 + ((ck.toNat : Int) - 48)).tdiv 10 = -(((9223372036854775808 - dk) / 10 : Nat) : Int) := by
          rw [← tdiv10]; congr 1; omega
        have htd : ¬ (-(headN u k : Int) < (-9223372036854775808 + ((ck.toNat : Int) - 48)).tdiv 10) := by rw [hte]; omega
        have hrq : Rng ((-9223372036854775808 + ((ck.toNat : Int) - 48)).tdiv 10) := by rw [hte]; exact Rng.mk (by omega) (by omega)
        repeat' (first | rfl | assumption | (apply stp tt_ok; constructor) | exact Rng.mk (by omega) (by omega) | exact Bd.mk (by first | omega | (refine Nat.lt_of_lt_of_le (show _ < 1 by decide) ?_; first | omega | (rw [List.length_replicate]; omega)) | (refine Nat.lt_of_lt_of_le (show _ < 2 by decide) ?_; first | omega | (rw [List.length_replicate]; omega)) | (simp only [List.length_cons, List.length_nil]; omega)) | refine J.draw (by assumption) follows_ok (by kernel_rfl) (by decide +kernel) (by decide +kernel) ?_ | refine J.done ⟨rfl, rfl, rfl, ?_⟩ | constructor | (intro _; exfalso; omega) | intro _)
        have hv : -(headN u k : Int) * 10 - ((ck.toNat : Int) - 48) = -(headN u (k + 1) : Int) := by omega
        rw [hv]
        exact J.keep [10, 9, 8, 7, 6, 5, 4, 3] rfl (ih2 hkl _ _ ⟨rfl, rfl⟩)
      · obtain rfl : k = Lib.nDigits u := by omega
        rw [hall]
        rcases hend with rfl | ⟨r, rfl⟩
        · simp only [List.length_nil] at hlen
          by_cases hL1 : 1 < Lib.nDigits u
          · have hd1' := hne1 rfl hL1
            repeat' (first | rfl | assumption | (apply stp tt_ok; constructor) | exact Rng.mk (by omega) (by omega) | exact Bd.mk (by first | omega | (refine Nat.lt_of_lt_of_le (show _ < 1 by decide) ?_; first | omega | (rw [List.length_replicate]; omega)) | (refine Nat.lt_of_lt_of_le (show _ < 2 by decide) ?_; first | omega | (rw [List.length_replicate]; omega)) | (simp only [List.length_cons, List.length_nil]; omega)) | refine J.draw (by assumption) follows_ok (by kernel_rfl) (by decide +kernel) (by decide +kernel) ?_ | refine J.done ⟨rfl, rfl, rfl, ?_⟩ | constructor | (intro _; exfalso; omega) | intro _)
            exact J.keep [7, 6, 5, 4, 3] rfl (ih hlt _ _ ⟨F + Lib.nDigits u, rfl, rfl, by omega, hdrop⟩)
          · repeat' (first | rfl | assumption | (apply stp tt_ok; constructor) | exact Rng.mk (by omega) (by omega) | exact Bd.mk (by first | omega | (refine Nat.lt_of_lt_of_le (show _ < 1 by decide) ?_; first | omega | (rw [List.length_replicate]; omega)) | (refine Nat.lt_of_lt_of_le (show _ < 2 by decide) ?_; first | omega | (rw [List.length_replicate]; omega)) | (simp only [List.length_cons, List.length_nil]; omega)) | refine J.draw (by assumption) follows_ok (by kernel_rfl) (by decide +kernel) (by decide +kernel) ?_ | refine J.done ⟨rfl, rfl, rfl, ?_⟩ | constructor | (intro _; exfalso; omega) | intro _)
            exact J.keep [7, 6, 5, 4, 3] rfl (ih hlt _ _ ⟨F + Lib.nDigits u, rfl, rfl, by omega, hdrop⟩)
        · simp only [List.length_cons] at hlen
          obtain ⟨c9, hc9, hb9⟩ : ∃ c9 : UInt8, (c9.toNat : Int) = 44 ∧ (⟨⟨TL⟩⟩ : ByteArray).data.toList[F + Lib.nDigits u]? = some c9 := ⟨44, rfl, by
            show TL[F + Lib.nDigits u]? = _
            rw [hdig, List.getElem?_append_right (by rw [Lib.decDigits_length]; exact Nat.le_refl _), Lib.decDigits_length, Nat.sub_self]; rfl⟩
          by_cases hL1 : 1 < Lib.nDigits u
          · have hd1' := hne1 rfl hL1
            repeat' (first | rfl | assumption | (apply stp tt_ok; constructor) | exact Rng.mk (by omega) (by omega) | exact Bd.mk (by first | omega | (refine Nat.lt_of_lt_of_le (show _ < 1 by decide) ?_; first | omega | (rw [List.length_replicate]; omega)) | (refine Nat.lt_of_lt_of_le (show _ < 2 by decide) ?_; first | omega | (rw [List.length_replicate]; omega)) | (simp only [List.length_cons, List.length_nil]; omega)) | refine J.draw (by assumption) follows_ok (by kernel_rfl) (by decide +kernel) (by decide +kernel) ?_ | refine J.done ⟨rfl, rfl, rfl, ?_⟩ | constructor | (intro _; exfalso; omega) | intro _)
            exact J.keep [7, 6, 5, 4, 3] rfl (ih hlt _ _ ⟨F + Lib.nDigits u, rfl, rfl, by omega, hdrop⟩)
          · repeat' (first | rfl | assumption | (apply stp tt_ok; constructor) | exact Rng.mk (by omega) (by omega) | exact Bd.mk (by first | omega | (refine Nat.lt_of_lt_of_le (show _ < 1 by decide) ?_; first | omega | (rw [List.length_replicate]; omega)) | (refine Nat.lt_of_lt_of_le (show _ < 2 by decide) ?_; first | omega | (rw [List.length_replicate]; omega)) | (simp only [List.length_cons, List.length_nil]; omega)) | refine J.draw (by assumption) follows_ok (by kernel_rfl) (by decide +kernel) (by decide +kernel) ?_ | refine J.done ⟨rfl, rfl, rfl, ?_⟩ | constructor | (intro _; exfalso; omega) | intro _)
            exact J.keep [7, 6, 5, 4, 3] rfl (ih hlt _ _ ⟨F + Lib.nDigits u, rfl, rfl, by omega, hdrop⟩)
  · obtain rfl : i = 5 := by omega
    have hp5 : p = (textL a b c d e).length := by
      have := congrArg List.length htl
      rw [List.length_drop, tail_five, List.length_nil] at this
      omega
    repeat' (first | rfl | assumption | (apply stp tt_ok; constructor) | exact Rng.mk (by omega) (by omega) | exact Bd.mk (by first | omega | (refine Nat.lt_of_lt_of_le (show _ < 1 by decide) ?_; first | omega | (rw [List.length_replicate]; omega)) | (refine Nat.lt_of_lt_of_le (show _ < 2 by decide) ?_; first | omega | (rw [List.length_replicate]; omega)) | (simp only [List.length_cons, List.length_nil]; omega)) | refine J.draw (by assumption) follows_ok (by kernel_rfl) (by decide +kernel) (by decide +kernel) ?_ | refine J.done ⟨rfl, rfl, rfl, ?_⟩ | constructor | (intro _; exfalso; omega) | intro _)
    refine CallJ.val (U.wakes M hT) ?_
    repeat' (first | rfl | assumption | (apply stp tt_ok; constructor) | exact Rng.mk (by omega) (by omega) | exact Bd.mk (by first | omega | (refine Nat.lt_of_lt_of_le (show _ < 1 by decide) ?_; first | omega | (rw [List.length_replicate]; omega)) | (refine Nat.lt_of_lt_of_le (show _ < 2 by decide) ?_; first | omega | (rw [List.length_replicate]; omega)) | (simp only [List.length_cons, List.length_nil]; omega)) | refine J.draw (by assumption) follows_ok (by kernel_rfl) (by decide +kernel) (by decide +kernel) ?_ | refine J.done ⟨rfl, rfl, rfl, ?_⟩ | constructor | (intro _; exfalso; omega) | intro _)
    exact J.give0 tt_ok rfl (.cons (.tmp rfl) .nil) rfl
end
end Go.Proofs.YtibeinbfhhoeiaaGreatDoor.Ab

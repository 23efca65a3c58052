/- Joined texts: Head, VarPut, VarTake. Each has its own head line. No condition beyond those that its theorems state. -/
import Derived.Handy
import Derived.Test.YtmejoococajikaaGreatJ06
import Derived.Test.YtmejoococajikaaGreatJ08
import Derived.Test.YtmejoococajikaaGreatJ09
import Derived.Test.YtmejoococajikaaGreatJ04
import Derived.Test.YtmejoococajikaaGreatJ02
set_option linter.unusedVariables false

/- direct.Head and direct.Look, and their references. -/
namespace Go.Proofs.YtmejoococajikaaGreat
open Go.RowKit

theorem i64_of (m : Nat) (h : m < 2 ^ 63) : (BitVec.ofInt 64 (m : Int)).toNat = m := by
  rw [BitVec.ofInt_natCast, BitVec.toNat_ofNat]; exact Nat.mod_eq_of_lt (by omega)
theorem i64_or_at (a b k : Nat) (hb : b < 2 ^ k) (h : a * 2 ^ k + b < 2 ^ 63) : bits .or .i64 ((a * 2 ^ k : Nat) : Int) (b : Int) = ((a * 2 ^ k + b : Nat) : Int) := by
  show IntKind.i64.wrap ((BitVec.ofInt 64 ((a * 2 ^ k : Nat) : Int) ||| BitVec.ofInt 64 (b : Int)).toNat : Int) = _
  rw [BitVec.toNat_or, i64_of _ (by omega), i64_of _ (by omega), Nat.mul_comm a, ← Nat.two_pow_add_eq_or_of_lt hb a, IntKind.wrap_i64]
  rw [Nat.mul_comm (2 ^ k) a]
  omega
theorem i64_and_low (a k : Nat) (ha : a < 2 ^ 63) (hk : k < 63) : bits .and .i64 (a : Int) ((2 ^ k - 1 : Nat) : Int) = ((a % 2 ^ k : Nat) : Int) := by
  show IntKind.i64.wrap ((BitVec.ofInt 64 (a : Int) &&& BitVec.ofInt 64 ((2 ^ k - 1 : Nat) : Int)).toNat : Int) = _
  have h1 : 2 ^ k < 2 ^ 63 := Nat.pow_lt_pow_right (by omega) hk
  have h2 : a % 2 ^ k ≤ a := Nat.mod_le _ _
  rw [BitVec.toNat_and, i64_of _ ha, i64_of _ (by omega), Nat.and_two_pow_sub_one_eq_mod, IntKind.wrap_i64]
  omega
theorem Sl_lit (w : World) (k : IntKind) (l : List Int) (t : TypeId) (cs : Array Value) (hcs : cs = (l.map (Value.int k)).toArray) (n : Nat) (hn : l.length = n) (hs : n ≤ 1000000) :
    Sl (w.alloc (.cells cs t)) k (some ⟨w.heap.size, 0, none⟩) n n l := by
  subst hcs
  refine ⟨⟨by simpa using hn, fun _ => ⟨w.heap.size, 0, rfl, by simp, fun j u hu => ?_⟩⟩, Nat.le_refl _, by omega⟩
  rw [(Blk.new w t _).cell]; simpa using hu

/-- A head: two bytes, or none. -/
def headR (kind code many : Int) : List Int :=
  if 0 ≤ kind ∧ kind ≤ 3 ∧ 0 ≤ code ∧ code < 32 ∧ 1 ≤ many ∧ many ≤ 512 then [(16384 * kind + 512 * code + many - 1) / 256, (16384 * kind + 512 * code + many - 1) % 256] else []
theorem head_bits (k c m : Int) (h1 : 0 ≤ k) (h2 : k ≤ 3) (h3 : 0 ≤ c) (h4 : c < 32) (h5 : 1 ≤ m) (h6 : m ≤ 512) :
    bits BinOp.or IntKind.i64 (bits BinOp.or IntKind.i64 (k * 16384) (c * 512)) (m - 1) = 16384 * k + 512 * c + m - 1 := by
  have e1 := i64_or_at k.toNat (c.toNat * 512) 14 (by omega) (by omega)
  rw [show ((k.toNat * 2 ^ 14 : Nat) : Int) = k * 16384 from by omega, show ((c.toNat * 512 : Nat) : Int) = c * 512 from by omega] at e1
  have e2 := i64_or_at (k.toNat * 32 + c.toNat) (m - 1).toNat 9 (by omega) (by omega)
  rw [e1, show (((k.toNat * 2 ^ 14 + c.toNat * 512 : Nat)) : Int) = (((k.toNat * 32 + c.toNat) * 2 ^ 9 : Nat) : Int) from by omega, show m - 1 = ((m - 1).toNat : Int) from by omega, e2]
  omega

set_option maxRecDepth 100000 in
set_option maxHeartbeats 1000000 in
theorem Head_any (w : World) (k c m : Int) :
    Calls Tryz.prog 122 #[.int .i64 k, .int .i64 c, .int .i64 m] w (BytesOut w (headR k c m)) := by
  by_cases hall : 0 ≤ k ∧ k ≤ 3 ∧ 0 ≤ c ∧ c < 32 ∧ 1 ≤ m ∧ m ≤ 512
  · have hE := Lib.hid (show headR k c m = _ from if_pos hall)
    obtain ⟨h1, h2, h3, h4, h5, h6⟩ := hall
    have hb := Lib.hid (head_bits k c m h1 h2 h3 h4 h5 h6)
    go_enter Tryz.func122, Tryz.ntmps122
    go_wp2_with fail
    go_ret
    rw [hE.out, hb.out]
    exact ⟨_, 2, 2, rfl, Sl_lit w .u8 _ _ _ (by simp; omega) 2 rfl (by omega), (Below.refl w.heap.size w).alloc (Nat.le_refl _) _⟩
  · have hE := Lib.hid (show headR k c m = _ from if_neg hall)
    go_enter Tryz.func122, Tryz.ntmps122
    go_wp2_with fail
    all_goals
      go_ret
      rw [hE.out]
      exact ⟨none, 0, 0, rfl, Sl.nil _ _, Below.refl _ _⟩
/-- Bytes of the call's own are handed back. -/
def OwnOut (w : World) (l : List Int) (e : Ending) (w' : World) : Prop :=
  ∃ G n c, e = .returned (.slice G n c) ∧ Hid (w'.ownsRow w.heap.size 5 1 (.slice G n c) n (l.map (Value.int .u8))) ∧ Below w.heap.size w w'
set_option maxRecDepth 100000 in
set_option maxHeartbeats 1000000 in
theorem refHead_any (w : World) (k c m : Int) :
    Calls Tryz.prog 90 #[.int .i64 k, .int .i64 c, .int .i64 m] w (OwnOut w (headR k c m)) := by
  by_cases hall : 0 ≤ k ∧ k ≤ 3 ∧ 0 ≤ c ∧ c < 32 ∧ 1 ≤ m ∧ m ≤ 512
  · have hE := Lib.hid (show headR k c m = _ from if_pos hall)
    obtain ⟨h1, h2, h3, h4, h5, h6⟩ := hall
    go_enter Tryz.func90, Tryz.ntmps90
    go_wp2_with fail
    go_ret
    rw [hE.out]
    exact ⟨_, 2, 2, rfl, ⟨by simp, .inr ⟨w.heap.size, 2, _, rfl, Nat.le_refl _, Blk.new w _ _, Nat.le_refl _, by unfold maxLen; omega, rfl, by simp⟩⟩, (Below.refl w.heap.size w).alloc (Nat.le_refl _) _⟩
  · have hE := Lib.hid (show headR k c m = _ from if_neg hall)
    go_enter Tryz.func90, Tryz.ntmps90
    go_wp2_with fail
    all_goals
      go_ret
      rw [hE.out]
      exact ⟨none, 0, 0, rfl, ⟨rfl, .inl ⟨rfl, rfl⟩⟩, Below.refl _ _⟩

def lookR (b : List Int) : Int × Int × Int × List Int × Int :=
  if b.length < 2 then (0, 0, 0, [], 2)
  else ((256 * b.getD 0 0 + b.getD 1 0) / 16384, (256 * b.getD 0 0 + b.getD 1 0) / 512 % 32, (256 * b.getD 0 0 + b.getD 1 0) % 512 + 1, b.drop 2, 0)
/-- Three numbers, bytes and an error's number are handed back. -/
def LookOut (w : World) (x y z : Int) (l : List Int) (er : Int) (e : Ending) (w' : World) : Prop :=
  ∃ G n c, e = .returned (.tuple #[.int .i64 x, .int .i64 y, .int .i64 z, .slice G n c, .int .i64 er]) ∧ Sl w' .u8 G n c l ∧ Below w.heap.size w w'
theorem look_bits (x y : Int) (hx : 0 ≤ x ∧ x < 256) (hy : 0 ≤ y ∧ y < 256) : bits BinOp.or IntKind.i64 (x * 256) y = 256 * x + y ∧ bits BinOp.and IntKind.i64 ((256 * x + y) / 512) 31 = (256 * x + y) / 512 % 32 ∧ bits BinOp.and IntKind.i64 (256 * x + y) 511 = (256 * x + y) % 512 := by
  refine ⟨?_, ?_, ?_⟩
  · have e := i64_or_at x.toNat y.toNat 8 (by omega) (by omega)
    rw [show ((x.toNat * 2 ^ 8 : Nat) : Int) = x * 256 from by omega, show (y.toNat : Int) = y from by omega] at e
    rw [e]; omega
  · have e := i64_and_low ((256 * x + y) / 512).toNat 5 (by omega) (by omega)
    rw [show ((((256 * x + y) / 512).toNat : Nat) : Int) = (256 * x + y) / 512 from by omega] at e
    rw [show (31 : Int) = ((2 ^ 5 - 1 : Nat) : Int) from rfl, e]; omega
  · have e := i64_and_low (256 * x + y).toNat 9 (by omega) (by omega)
    rw [show (((256 * x + y).toNat : Nat) : Int) = 256 * x + y from by omega] at e
    rw [show (511 : Int) = ((2 ^ 9 - 1 : Nat) : Int) from rfl, e]; omega
theorem getD_byte {l : List Int} (h : U8 l) (i : Nat) : 0 ≤ l.getD i 0 ∧ l.getD i 0 < 256 := by
  rcases Nat.lt_or_ge i l.length with h1 | h1
  · exact h _ (by simp [List.getD, List.getElem?_eq_getElem h1])
  · simp [List.getD, List.getElem?_eq_none h1]

set_option maxRecDepth 100000 in
set_option maxHeartbeats 1000000 in
theorem Look_any (w : World) (A : Option Addr) (n cap : Nat) (b : List Int) (hr : Ri w .u8 A n b) (hu : U8 b) (hc : n ≤ cap) (hm : cap ≤ 9223372036854775807) (hn : n ≤ 1000000) (k c m : Int) (r : List Int) (er : Int) (hl : lookR b = (k, c, m, r, er)) :
    Calls Tryz.prog 161 #[.slice A n cap] w (LookOut w k c m r er) := by
  have HR := Lib.hid hr
  unfold lookR at hl
  by_cases h2 : n < 2
  · rw [if_pos (by rw [hr.len]; omega)] at hl
    injection hl with e1 hl; injection hl with e2 hl; injection hl with e3 hl; injection hl with e4 e5
    subst e1 e2 e3 e4 e5
    clear hr hu
    go_enter Tryz.func161, Tryz.ntmps161
    go_wp2_with fail
    go_returns
    exact ⟨none, 0, 0, rfl, Sl.nil _ _, Below.refl _ _⟩
  · rw [if_neg (by rw [hr.len]; omega)] at hl
    injection hl with e1 hl; injection hl with e2 hl; injection hl with e3 hl; injection hl with e4 e5
    obtain ⟨bl, o, hA, hbl, hcell⟩ := hr.all (by omega)
    subst hA
    have g0 := hcell 0 (by omega)
    have g1 := hcell 1 (by omega)
    have b0 := getD_byte hu 0
    have b1 := getD_byte hu 1
    have HL := Lib.hid (look_bits _ _ b0 b1)
    have HE := Lib.hid (And.intro e1 (And.intro e2 (And.intro e3 (And.intro e4 e5))))
    rw [Nat.add_zero] at g0
    have HT := Lib.hid (hr.restIf (i := 2) (by omega) hc)
    clear hr hu hcell e1 e2 e3 e4 e5
    generalize b.getD 0 0 = x at *
    generalize b.getD 1 0 = y at *
    go_enter Tryz.func161, Tryz.ntmps161
    go_wp2_with fail
    go_quiet (fail)
    go_wp2_with fail
    all_goals first | rw [if_pos ‹cap = 2›] at HT | rw [if_neg ‹¬ cap = 2›] at HT
    all_goals
      refine (Clone_any _ _ _ _ _ (HT.out.drewN _) (by omega)).mono ?_; rintro e w' ⟨G, n', c', rfl, hs, hb⟩
      go_wp2_with fail
      go_returns
      rw [HL.out.1, HL.out.2.1, HL.out.2.2, show wrap64 ((256 * x + y) % 512 + 1) = (256 * x + y) % 512 + 1 from by unfold wrap64; omega, HE.out.1, HE.out.2.1, HE.out.2.2.1]
      obtain ⟨_, _, _, e4, e5⟩ := HE.out
      subst e4 e5
      exact ⟨_, _, _, rfl, hs, on (below_drewN (Below.refl w.heap.size w) _) hb⟩
set_option maxRecDepth 100000 in
set_option maxHeartbeats 1000000 in
theorem refLook_any (w : World) (A : Option Addr) (n cap : Nat) (b : List Int) (hr : Ri w .u8 A n b) (hu : U8 b) (hc : n ≤ cap) (hm : cap ≤ 9223372036854775807) (hn : n ≤ 1000000) (k c m : Int) (r : List Int) (er : Int) (hl : lookR b = (k, c, m, r, er)) :
    Calls Tryz.prog 110 #[.slice A n cap] w (LookOut w k c m r er) := by
  have HR := Lib.hid hr
  unfold lookR at hl
  by_cases h2 : n < 2
  · rw [if_pos (by rw [hr.len]; omega)] at hl
    injection hl with e1 hl; injection hl with e2 hl; injection hl with e3 hl; injection hl with e4 e5
    subst e1 e2 e3 e4 e5
    clear hr hu
    go_enter Tryz.func110, Tryz.ntmps110
    go_wp2_with fail
    go_returns
    exact ⟨none, 0, 0, rfl, Sl.nil _ _, Below.refl _ _⟩
  · rw [if_neg (by rw [hr.len]; omega)] at hl
    injection hl with e1 hl; injection hl with e2 hl; injection hl with e3 hl; injection hl with e4 e5
    obtain ⟨bl, o, hA, hbl, hcell⟩ := hr.all (by omega)
    subst hA
    have g0 := hcell 0 (by omega)
    have g1 := hcell 1 (by omega)
    have b0 := getD_byte hu 0
    have b1 := getD_byte hu 1
    have HE := Lib.hid (And.intro e1 (And.intro e2 (And.intro e3 (And.intro e4 e5))))
    rw [Nat.add_zero] at g0
    have HT := Lib.hid (hr.restIf (i := 2) (by omega) hc)
    clear hr hu hcell e1 e2 e3 e4 e5
    generalize b.getD 0 0 = x at *
    generalize b.getD 1 0 = y at *
    by_cases hcap : cap = 2
    all_goals
      first | rw [if_pos hcap] at HT | rw [if_neg hcap] at HT
      go_enter Tryz.func110, Tryz.ntmps110
      go_wp2_with fail
      go_quiet (fail)
      go_wp2_with (at_builtin; refine wpList_u8 _ rfl (.tmp 29) (.tmp 31) rfl w.heap.size _ 0 [] rfl (own_empty (w.drewN nq) _ 1) _ _ _ (b.drop 2) rfl ((HT.out.drewN nq).alloc _) (by omega) (by simp [World.alloc, World.drewN]) ?_; intro G3 c3 w3 hown hgr _)
      have hb3 := push0 ((below_drewN (Below.refl w.heap.size w) nq).alloc (Nat.le_refl _) _) (Nat.le_refl _) (own_empty (w.drewN nq) _ 1) hgr
      rw [Nat.zero_add, List.nil_append] at hown
      have hs3 := Lib.hid (Sl.of_own hown)
      clear hown hgr
      go_wp2_with fail
      go_returns
      obtain ⟨e1, e2, e3, e4, e5⟩ := HE.out
      subst e1 e2 e3 e4 e5
      exact ⟨_, _, _, rfl, hs3.out, hb3⟩
end Go.Proofs.YtmejoococajikaaGreat

/- varint.Put and its reference; PutInt. -/
namespace Go.Proofs.YtmejoococajikaaGreat
open Go.RowKit

theorem or_128 : ∀ c : Nat, c < 256 → bits .or .u8 (c : Int) 128 = ((c % 128 + 128 : Nat) : Int) := by decide +kernel
theorem vput_step (f y : Nat) (h : 128 ≤ y) (hy : y < 2 ^ (7 * f + 1)) : ∃ g, f = g + 1 ∧ vputF f y = ((y % 128 + 128 : Nat) : Int) :: vputF g (y / 128) ∧ y / 128 < 2 ^ (7 * g + 1) := by
  cases f with
  | zero => simp at hy; omega
  | succ g =>
    refine ⟨g, rfl, ?_, ?_⟩
    · simp only [vputF]; rw [if_neg (by omega)]
    · rw [Nat.div_lt_iff_lt_mul (by omega), show (128 : Nat) = 2 ^ 7 from rfl, ← Nat.pow_add]
      rwa [show 7 * g + 1 + 7 = 7 * (g + 1) + 1 from by omega]
theorem vput_end (f y : Nat) (h : y < 128) : vputF f y = [(y : Int)] := by
  cases f with
  | zero => rfl
  | succ g => simp only [vputF]; rw [if_pos h]
theorem Ri_lit1 (w : World) (x : Int) (t : TypeId) : Ri (w.alloc (.cells #[.int .u8 x] t)) .u8 (some ⟨w.heap.size, 0, none⟩) 1 [x] := Rd.one _ _ _
theorem blk_at {w : World} {t : TypeId} {cs : Array Value} {g : Nat} (h : g = w.heap.size) : Blk (w.alloc (.cells cs t)) g t cs := by subst h; exact Blk.new _ _ _
/-- Between two rounds. -/
def VPutW (w wr : World) (f y k X : Nat) (pre : List Int) (v : Value) : Prop :=
  ∃ acc : List Int, acc.length = k ∧ pre ++ vput X = acc ++ vputF f y ∧ wr.ownsRow w.heap.size 5 1 v k (acc.map (Value.int .u8)) ∧ Below w.heap.size w wr

set_option maxRecDepth 100000 in
set_option maxHeartbeats 1000000 in
theorem VPut_any (w : World) (A : Option Addr) (n cap : Nat) (b : List Int) (hr : Ri w .u8 A n b) (hn : n ≤ 100000) (X : Nat) (hX : X < 18446744073709551616) :
    Calls Tryz.prog 156 #[.slice A n cap, .int .u64 X] w (BytesOut w (b ++ vput X)) := by
  have HR := Lib.hid hr; clear hr
  have H0 : Hid (VPutW w w 9 X 0 X [] (.slice none 0 0)) := ⟨[], rfl, rfl, ⟨by simp, .inl ⟨rfl, rfl⟩⟩, Below.refl _ _⟩
  go_enter Tryz.func156, Tryz.ntmps156
  go_wp2_with fail
  go_loopw [1, 5] (fun a v wr => ∃ f y k : Nat, a = .int .u64 y ∧ y < 18446744073709551616 ∧ f + k = 9 ∧ y < 2 ^ (7 * f + 1) ∧ Hid (VPutW w wr f y k X [] v)) (fun a _ _ => (intOf a).toNat)
  case atStart => exact ⟨9, X, 0, rfl, hX, rfl, hX, H0⟩
  case round =>
    obtain ⟨f, y, k, rfl, hy, hfk, hyf, hin⟩ := hrel
    by_cases hlt : 128 ≤ y
    · obtain ⟨g, rfl, hv, hyg⟩ := vput_step f y hlt hyf
      have hor := Lib.hid (or_128 (y % 256) (by omega))
      have HV := Lib.hid hv
      obtain ⟨acc, ha1, ha2, ho, hb⟩ := hin.out
      have HO := Lib.hid ho; have HB := Lib.hid hb; have HA := Lib.hid ha2; have HA1 := Lib.hid ha1
      have hz := hb.size
      clear hv ho hb ha2 ha1 hin hyf
      go_wp2_with (at_builtin; refine wpList_u8 _ rfl _ _ rfl w.heap.size _ k _ rfl (own_below HO.out ((Below.refl _ _).alloc (Nat.le_refl _) _)) _ 1 1 [_] rfl (Rd.one _ _ _) (by omega) (by simp; omega) ?_; intro G c w2 hown hgr hcc)
      have HOWN := Lib.hid hown; clear hown
      go_wp2_with fail
      go_roundw
      case rel =>
        refine ⟨g, y / 128, k + 1, congrArg _ (by omega), by omega, by omega, hyg, acc ++ [((y % 128 + 128 : Nat) : Int)], by rw [List.length_append, HA1.out]; rfl, ?_, ?_, push_ HB.out (Nat.le_refl _) HO.out hgr⟩
        · rw [HA.out, HV.out]; simp
        · have h := HOWN.out
          have h2 := hor.out
          rw [show (((y % 256 : Nat)) : Int) = (y : Int) % 256 from by omega, show y % 256 % 128 + 128 = y % 128 + 128 from by omega] at h2
          rw [h2] at h
          exact h
      case measure => simp [intOf] <;> omega
    · obtain ⟨acc, ha1, ha2, ho, hb⟩ := hin.out
      rw [vput_end f y (by omega)] at ha2
      obtain ⟨G, c, rfl⟩ := own_form ho
      have HS := Lib.hid (Sl.of_own ho); have HB := Lib.hid hb; have HA := Lib.hid ha2
      clear ho hb ha2 hin hyf ha1
      go_wp2_with fail
      refine (Concat3_any _ _ _ _ _ _ _ _ _ _ _ _ _ _ (blk_at (by simp)) (((HR.out.below HB.out).alloc _).alloc _) ((HS.out.1.alloc _).alloc _) ((Ri_lit1 _ _ _).alloc _) (by omega) (by omega) (by omega)).mono ?_; rintro e w6 ⟨G6, n6, c6, rfl, hs6, hb6⟩
      go_wp2_with fail
      go_ret
      have h := HA.out
      rw [List.nil_append] at h
      rw [h, ← List.append_assoc]
      exact ⟨_, _, _, rfl, hs6, on (on HB.out (((Below.refl _ _).alloc (Nat.le_refl _) _).alloc (by simp) _)) hb6⟩

set_option maxRecDepth 100000 in
set_option maxHeartbeats 1000000 in
theorem refVPut_any (w : World) (A : Option Addr) (n cap : Nat) (b : List Int) (hr : Ri w .u8 A n b) (hn : n ≤ 100000) (X : Nat) (hX : X < 18446744073709551616) :
    Calls Tryz.prog 132 #[.slice A n cap, .int .u64 X] w (OwnOut w (b ++ vput X)) := by
  have HR := Lib.hid hr; clear hr
  go_enter Tryz.func132, Tryz.ntmps132
  go_wp2_with (at_builtin; refine wpList_u8 _ rfl _ _ rfl w.heap.size _ 0 [] rfl (own_empty w _ 1) _ _ _ b rfl (HR.out.alloc _) (by omega) (by simp) ?_; intro G3 c3 w3 hown hgr hcc)
  have hb3 := push0 ((Below.refl w.heap.size w).alloc (Nat.le_refl _) _) (Nat.le_refl _) (own_empty w _ 1) hgr
  rw [Nat.zero_add, List.nil_append] at hown
  have H0 : Hid (VPutW w w3 9 X n X b (.slice G3 n c3)) := ⟨b, HR.out.len, rfl, hown, hb3⟩
  clear hown hgr hb3 hcc
  go_wp2_with fail
  go_loopw [1, 5] (fun a v wr => ∃ f y k : Nat, a = .int .u64 y ∧ y < 18446744073709551616 ∧ f + k = 9 + n ∧ k ≤ n + 9 ∧ y < 2 ^ (7 * f + 1) ∧ Hid (VPutW w wr f y k X b v)) (fun a _ _ => (intOf a).toNat)
  case atStart => exact ⟨9, X, n, rfl, hX, by omega, by omega, hX, H0⟩
  case round =>
    obtain ⟨f, y, k, rfl, hy, hfk, hk9, hyf, hin⟩ := hrel
    obtain ⟨acc, ha1, ha2, ho, hb⟩ := hin.out
    have HO := Lib.hid ho; have HB := Lib.hid hb; have HA1 := Lib.hid ha1
    have hz := hb.size
    by_cases hlt : 128 ≤ y
    · obtain ⟨g, rfl, hv, hyg⟩ := vput_step f y hlt hyf
      have HV := Lib.hid hv
      have HA := Lib.hid ha2
      clear hv ho hb ha2 ha1 hin hyf
      go_wp2_with (at_builtin; refine wpList_u8 _ rfl _ _ rfl w.heap.size _ k _ rfl (own_below HO.out ((Below.refl _ _).alloc (Nat.le_refl _) _)) _ 1 1 [_] rfl (Rd.one _ _ _) (by omega) (by simp; omega) ?_; intro G c w2 hown hgr hcc)
      have HOWN := Lib.hid hown; clear hown
      go_wp2_with fail
      go_roundw
      case rel =>
        refine ⟨g, y / 128, k + 1, congrArg _ (by omega), by omega, by omega, by omega, hyg, acc ++ [((y % 128 + 128 : Nat) : Int)], by rw [List.length_append, HA1.out]; rfl, ?_, ?_, push_ HB.out (Nat.le_refl _) HO.out hgr⟩
        · rw [HA.out, HV.out]; simp
        · have h := HOWN.out
          rw [show ((y : Int) % 128 + 128) = ((y % 128 + 128 : Nat) : Int) from by omega] at h
          exact h
      case measure => simp [intOf] <;> omega
    · rw [vput_end f y (by omega)] at ha2
      have HA := Lib.hid ha2
      clear ho hb ha2 hin hyf ha1
      go_wp2_with (at_builtin; refine wpList_u8 _ rfl _ _ rfl w.heap.size _ k _ rfl (own_below HO.out ((Below.refl _ _).alloc (Nat.le_refl _) _)) _ 1 1 [_] rfl (Rd.one _ _ _) (by omega) (by simp; omega) ?_; intro G c w2 hown hgr hcc)
      have HOWN := Lib.hid hown; clear hown
      go_wp2_with fail
      go_ret
      rw [HA.out]
      exact ⟨_, _, _, rfl, HOWN, push_ HB.out (Nat.le_refl _) HO.out hgr⟩
end Go.Proofs.YtmejoococajikaaGreat

/- varint.Take and its reference. -/
namespace Go.Proofs.YtmejoococajikaaGreat
open Go.RowKit

def VTakeOut (w : World) (x : Nat) (l : List Int) (er : Int) (e : Ending) (w' : World) : Prop :=
  ∃ G n c, e = .returned (.tuple #[.int .u64 x, .slice G n c, .int .i64 er]) ∧ Sl w' .u8 G n c l ∧ Below w.heap.size w w'
theorem vval_snoc (b : List Int) (j : Nat) (h : j < b.length) : vval (b.take (j + 1)) = vval (b.take j) + 128 ^ j * ((b.getD j 0).toNat % 128) := by
  rw [take_snoc b j h, vval_append, List.length_take, Nat.min_eq_left (by omega)]
  simp [vval]
theorem andNot_128 : ∀ c : Nat, c < 256 → bits .andNot .u8 (c : Int) 128 = ((c % 128 : Nat) : Int) := by decide +kernel
theorem and_128 : ∀ c : Nat, c < 256 → (bits .and .u8 (c : Int) 128 != 0) = decide (128 ≤ c) := by decide +kernel
theorem pow7 (j : Nat) : 2 ^ (7 * j) = 128 ^ j := by rw [Nat.pow_mul]
/-- One byte more. -/
theorem vor_step (b : List Int) (j : Nat) (hj : j < b.length) (h9 : j < 9 ∨ j = 9 ∧ b.getD j 0 ≤ 1) :
    bits .or .u64 (vval (b.take j) : Int) (IntKind.u64.wrap ((((b.getD j 0).toNat % 128 : Nat) : Int) * 2 ^ (7 * j))) = (vval (b.take (j + 1)) : Int) ∧ vval (b.take (j + 1)) < 18446744073709551616 := by
  have h1 := vval_lt (b.take j)
  rw [List.length_take, Nat.min_eq_left (by omega)] at h1
  rw [vval_snoc b j hj]
  generalize vval (b.take j) = V at *
  generalize hc : (b.getD j 0).toNat % 128 = c at *
  have h7 : (128 : Nat) ^ 9 = 9223372036854775808 := by decide
  have hlt : 128 ^ j * c + V < 18446744073709551616 := by
    rcases h9 with h9 | ⟨rfl, h9⟩
    · have h5 : 128 ^ (j + 1) ≤ 128 ^ 9 := Nat.pow_le_pow_right (by omega) (by omega)
      have h6 : 128 ^ j * c ≤ 128 ^ j * 127 := Nat.mul_le_mul_left _ (by omega)
      rw [Nat.pow_succ] at h5
      omega
    · rw [h7] at h1 ⊢
      have : c ≤ 1 := by omega
      omega
  have e1 : ((c : Int) * 2 ^ (7 * j)) = ((c * 2 ^ (7 * j) : Nat) : Int) := by rw [Int.natCast_mul, Int.natCast_pow]; rfl
  rw [← pow7] at h1 hlt ⊢
  have hlt2 : c * 2 ^ (7 * j) + V < 18446744073709551616 := by rw [Nat.mul_comm]; exact hlt
  rw [e1, IntWalk.u64_in _ (by omega), u64_or_nat _ _ (by omega) (by omega)]
  constructor
  · rw [Nat.or_comm, Nat.mul_comm c, ← Nat.two_pow_add_eq_or_of_lt h1 c, Nat.add_comm]
  · omega

theorem vtake_bad (b : List Int) (hu : U8 b) (h : b.length ≤ lead 9 b ∨ 128 ≤ b.getD (lead 9 b) 0 ∨ (b.getD (lead 9 b) 0 = 0 ∧ 0 < lead 9 b) ∨ (lead 9 b = 9 ∧ 1 < b.getD (lead 9 b) 0)) : vtakeR b = (0, [], 2) := by
  unfold vtakeR
  by_cases h1 : b.length ≤ lead 9 b
  · rw [if_pos h1]
  · rw [if_neg h1, if_neg]
    rw [vtake_good b hu (by omega)]
    omega
theorem vtake_ok (b : List Int) (hu : U8 b) (h1 : lead 9 b < b.length) (h2 : b.getD (lead 9 b) 0 < 128) (h3 : ¬ (b.getD (lead 9 b) 0 = 0 ∧ 0 < lead 9 b)) (h4 : ¬ (lead 9 b = 9 ∧ 1 < b.getD (lead 9 b) 0)) :
    vtakeR b = (vval (b.take (lead 9 b + 1)), b.drop (lead 9 b + 1), 0) := by
  have h5 := (vtake_good b hu h1).2 ⟨h2, h3, h4⟩
  have h6 := (vor_step b (lead 9 b) h1 (by have := (lead_le 9 b).1; omega)).2
  unfold vtakeR
  rw [if_neg (by omega), if_pos h5, Nat.mod_eq_of_lt h6]
theorem VTakeOut.bad {w : World} : VTakeOut w 0 [] 2 (.returned (.tuple #[.int .u64 0, .slice none 0 0, .int .i64 2])) w := ⟨none, 0, 0, rfl, Sl.nil _ _, Below.refl _ _⟩

set_option maxRecDepth 100000 in
set_option maxHeartbeats 1000000 in
theorem VTake_any (w : World) (A : Option Addr) (n cap : Nat) (b : List Int) (hr : Ri w .u8 A n b) (hu : U8 b) (hc : n ≤ cap) (hm : cap ≤ 9223372036854775807) (hn : n ≤ 100000) (X : Nat) (r : List Int) (er : Int) (hl : vtakeR b = (X, r, er)) :
    Calls Tryz.prog 173 #[.slice A n cap] w (VTakeOut w X r er) := by
  have HR := Lib.hid hr; have HU := Lib.hid hu; have HN := Lib.hid hr.len
  have hle := lead_le 9 b
  have hlg := Lib.hid (lead_ge 9 b)
  have hls := Lib.hid (lead_stop 9 b)
  have hbad := Lib.hid (vtake_bad b hu)
  have hok := Lib.hid (vtake_ok b hu)
  have HL := Lib.hid hl
  generalize lead 9 b = L at hle hlg hls hbad hok
  obtain ⟨hle1, hle2⟩ := hle
  rw [HN.out] at hle2
  clear hr hu hl
  go_enter Tryz.func173, Tryz.ntmps173
  go_wp2_with fail
  all_goals
    go_loopw [5, 11] (fun a i wr => ∃ j : Nat, j ≤ n ∧ j ≤ 10 ∧ i = .int .i64 j ∧ Hid (wr = w) ∧ Hid (j ≤ L ∧ a = .int .u64 (vval (b.take j)) ∨ (j = 10 ∧ L = 9 ∧ 128 ≤ b.getD 9 0 ∧ ∃ z, a = .int .u64 z))) (fun _ i _ => 10 - (intOf i).toNat)
    case atStart => exact ⟨0, by omega, by omega, rfl, Lib.hid rfl, Lib.hid (.inl ⟨by omega, rfl⟩)⟩
    case round =>
      obtain ⟨j, hjn, hj10, rfl, hw, hin⟩ := hrel
      obtain rfl := hw.out
      by_cases hlt : j < n ∧ j < 10
      · obtain ⟨hlt1, hlt2⟩ := hlt
        obtain ⟨bb, oo, hA, hbl, hcell⟩ := HR.out.at_ hlt1
        subst hA
        have hj : j ≤ L ∧ u5 = .int .u64 (vval (b.take j)) := by
          rcases hin.out with h | h
          · exact h
          · omega
        obtain ⟨hjL, rfl⟩ := hj
        have hy := getD_byte HU.out j
        obtain ⟨y, hyy⟩ : ∃ y : Nat, (y : Int) = b.getD j 0 := ⟨(b.getD j 0).toNat, by omega⟩
        have hstep := vor_step b j (by rw [HN.out]; exact hlt1)
        rw [← hyy] at hcell hy hstep
        have hyn : y < 256 := by omega
        have hm := Nat.mod_lt y (show 128 > 0 by omega)
        have e1 := andNot_128 y hyn
        have e2 := and_128 y hyn
        rw [Int.toNat_natCast, show (((y % 128 : Nat)) : Int) = (y : Int) % 128 from by omega] at hstep
        have hj7 : (0 : Int) ≤ 7 * (j : Int) := by omega
        have HYY := Lib.hid hyy; have HSTEP := Lib.hid hstep
        have HR1 := Lib.hid (HR.out.rest (i := j + 1) (b := bb) (o := oo) (by omega) (fun _ => rfl))
        clear hyy hstep hin
        generalize vval (b.take j) = V at *
        by_cases h128 : 128 ≤ y
        · by_cases h9 : j < 9
          · obtain ⟨hx, hx2⟩ := HSTEP.out (.inl h9)
            have hjL' : j < L := by
              rcases Nat.lt_or_ge j L with h | h
              · exact h
              · obtain rfl : j = L := by omega
                have := hls.out h9 (by rw [HN.out]; exact hlt1)
                rw [← HYY.out] at this
                omega
            go_wp2_with fail
            go_roundw
            case rel => exact ⟨j + 1, by omega, by omega, by go_num, Lib.hid trivial, Lib.hid (.inl ⟨by omega, rfl⟩)⟩
            case measure => simp [intOf] <;> omega
          · obtain rfl : j = 9 := by omega
            have h1 := HYY.out
            have HB9 : Hid (128 ≤ b.getD 9 0) := by show 128 ≤ b.getD 9 0; omega
            clear h1 HYY HSTEP HR1
            go_wp2_with fail
            go_roundw
            case rel => exact ⟨10, by omega, by omega, by go_num, Lib.hid trivial, Lib.hid (.inr ⟨rfl, by omega, HB9.out, _, rfl⟩)⟩
            case measure => simp [intOf] <;> omega
        · have hjL' : j = L := by
            rcases Nat.lt_or_ge j L with h | h
            · have := hlg.out j h
              rw [← HYY.out] at this
              omega
            · omega
          subst hjL'
          have HOK := Lib.hid (hok.out (by rw [HN.out]; exact hlt1))
          rw [← HYY.out] at HOK hbad
          rw [HL.out] at HOK hbad
          clear hok HYY hlg hls
          by_cases hb1 : y = 0 ∧ 0 < j
          · obtain ⟨rfl, hj0⟩ := hb1
            have h := hbad.out (.inr (.inr (.inl ⟨rfl, hj0⟩)))
            injection h with h1 h; injection h with h2 h3
            subst h1 h2 h3
            clear h
            go_wp2_with fail
            go_returns
            exact VTakeOut.bad
          · by_cases hb2 : j = 9 ∧ 1 < y
            · obtain ⟨rfl, hj0⟩ := hb2
              have h := hbad.out (.inr (.inr (.inr ⟨rfl, by omega⟩)))
              injection h with h1 h; injection h with h2 h3
              subst h1 h2 h3
              clear h
              have hy0 : ¬ (y : Int) = 0 := by omega
              go_wp2_with fail
              go_returns
              exact VTakeOut.bad
            · have h := HOK.out (by omega) (by omega) (by omega)
              injection h with h1 h; injection h with h2 h3
              subst h1 h2 h3
              obtain ⟨hx, hx2⟩ := HSTEP.out (by omega)
              clear h HOK hbad HSTEP
              have hb1' := Lib.hid hb1; have hb2' := Lib.hid hb2
              clear hb1 hb2
              have hn1 : n - (j + 1) ≤ 100000 := by omega
              rcases Nat.eq_zero_or_pos y with hy0 | hy0
              · obtain rfl : j = 0 := by have := hb1'.out; omega
                subst hy0
                have hx0 : bits BinOp.or IntKind.u64 (V : Int) 0 = (vval (b.take (0 + 1)) : Int) := by
                  rw [show IntKind.u64.wrap (((0 : Nat) : Int) % 128 * 2 ^ (7 * 0)) = 0 from by decide] at hx
                  exact hx
                have hcell' : wr.cell? ⟨bb, oo, none⟩ = some (.int .u8 0) := hcell
                have e1' : bits .andNot .u8 0 128 = 0 := by decide +kernel
                have e2' : bits .and .u8 0 128 = 0 := by decide +kernel
                clear hx hjL e1 e2 hcell
                generalize vval (b.take (0 + 1)) = Z at *
                go_wp2_with fail
                all_goals
                  refine (Clone_any _ _ _ (b.drop (0 + 1)) _ (by first | exact HR1.out | exact HR1.out.zero (by omega) _) (by omega)).mono ?_; rintro e w2 ⟨G2, n2, c2, rfl, hs2, hb2⟩
                  go_wp2_with fail
                  go_returns
                  exact ⟨_, _, _, rfl, hs2, hb2⟩
              · by_cases hj9 : j = 9
                · subst hj9
                  obtain rfl : y = 1 := by have := hb2'.out; omega
                  have hx0 : bits BinOp.or IntKind.u64 (V : Int) 9223372036854775808 = (vval (b.take (9 + 1)) : Int) := by
                    rw [show IntKind.u64.wrap (((1 : Nat) : Int) % 128 * 2 ^ (7 * 9)) = 9223372036854775808 from by decide] at hx
                    exact hx
                  have hcell' : wr.cell? ⟨bb, oo + 9, none⟩ = some (.int .u8 1) := hcell
                  have e1' : bits .andNot .u8 1 128 = 1 := by decide +kernel
                  have e2' : bits .and .u8 1 128 = 0 := by decide +kernel
                  clear hx hjL e1 e2 hcell
                  generalize vval (b.take (9 + 1)) = Z at *
                  go_wp2_with fail
                  all_goals
                    refine (Clone_any _ _ _ (b.drop (9 + 1)) _ (by first | exact HR1.out | exact HR1.out.zero (by omega) _) (by omega)).mono ?_; rintro e w2 ⟨G2, n2, c2, rfl, hs2, hb2⟩
                    go_wp2_with fail
                    go_returns
                    exact ⟨_, _, _, rfl, hs2, hb2⟩
                · have hne : ¬ (j : Int) = 9 := by omega
                  have hyz : ¬ (y : Int) = 0 := by omega
                  clear hjL
                  generalize vval (b.take (j + 1)) = Z at *
                  go_wp2_with fail
                  all_goals
                    refine (Clone_any _ _ _ (b.drop (j + 1)) _ (by first | exact HR1.out | exact HR1.out.zero (by omega) _) (by omega)).mono ?_; rintro e w2 ⟨G2, n2, c2, rfl, hs2, hb2⟩
                    go_wp2_with fail
                    go_returns
                    exact ⟨_, _, _, rfl, hs2, hb2⟩
      · have h := hbad.out (by
          rcases hin.out with ⟨h1, _⟩ | ⟨h1, h2, h3, _⟩
          · left; rw [HN.out]; omega
          · right; left; rw [h2]; exact h3)
        rw [HL.out] at h
        injection h with h1 h; injection h with h2 h3
        subst h1 h2 h3
        clear hin hbad hok hlg hls HL
        rcases (show n ≤ j ∨ j = 10 by omega) with hjj | rfl
        all_goals first
          | (exfalso; omega)
          | (go_wp2_with fail; go_returns; exact VTakeOut.bad)
end Go.Proofs.YtmejoococajikaaGreat

/- Joined texts: PlainGq, TxT, TxC. Each has its own head line. No condition beyond those that its theorems state. -/
import Derived.Deep.LoopGhost
import Derived.Deep.RegionLaw
import Derived.Test.YtmejoococajikaaGreatJ42
import Derived.Test.YtmejoococajikaaGreatJ36
import Derived.Test.YtmejoococajikaaGreatJ02
set_option linter.unusedVariables false

/- Rle: plain: what is taken are numbers, and not too many. -/
namespace Go.Proofs.YtmejoococajikaaGreat
open Go.RowKit

theorem takeF_good (s : Bool) (many : Nat) : ∀ (f : Nat) (out b : List Int), U8 b → I64 out → out.length ≤ many → I64 (takeF s many f out b).1 ∧ (takeF s many f out b).1.length ≤ many := by
  have hnil : I64 [] := fun y hy => by cases hy
  intro f
  induction f with
  | zero => intro out b _ _ _; exact ⟨hnil, Nat.zero_le _⟩
  | succ f ih =>
    intro out b hb ho hl
    rw [takeF]
    split
    · exact ⟨ho, hl⟩
    · split
      · exact ⟨hnil, Nat.zero_le _⟩
      · rename_i h
        have h1 := one_good b s hb
        have h2 := one_rest b s hb
        refine ih _ _ h2.1 (fun y hy => ?_) (by rw [List.length_append]; omega)
        rcases List.mem_append.1 hy with h3 | h3
        · exact ho y h3
        · exact h1.1 y h3
theorem takeGl_good (b : List Int) (many : Int) (s : Bool) (hb : U8 b) : I64 (takeGl b many s).1 ∧ (takeGl b many s).1.length ≤ 4096 := by
  unfold takeGl
  split
  · exact ⟨fun y hy => (by cases hy), Nat.zero_le _⟩
  · have := takeF_good s many.toNat (b.length + 1) [] b hb (fun y hy => (by cases hy)) (Nat.zero_le _)
    exact ⟨this.1, by omega⟩
end Go.Proofs.YtmejoococajikaaGreat

/- Texts: taken: the model; numbers (real). -/
namespace Go.Proofs.YtmejoococajikaaGreat
open Go.RowKit

/-- So many numbers, and nothing behind them. -/
def numsT (b : List Int) (many : Int) : List Int × Int :=
  if (takeGl b many false).2.2 ≠ 0 ∨ (takeGl b many false).2.1 ≠ [] then ([], 2) else ((takeGl b many false).1, 0)
theorem numsT_nn (b : List Int) (many : Int) : ∀ y ∈ (numsT b many).1, 0 ≤ y := by
  unfold numsT
  split
  · exact fun y hy => by cases hy
  · exact takeGl_pos b many
theorem numsT_good (b : List Int) (many : Int) (hb : U8 b) : I64 (numsT b many).1 ∧ (numsT b many).1.length ≤ 4096 := by
  unfold numsT
  split
  · exact ⟨fun y hy => (by cases hy), Nat.zero_le _⟩
  · exact takeGl_good b many false hb
theorem numsT_len (b : List Int) (many : Int) (h : (numsT b many).2 = 0) : ((numsT b many).1.length : Int) = many := by
  unfold numsT at h ⊢
  split
  · rename_i h1; rw [if_pos h1] at h; cases h
  · rename_i h1
    exact takeGl_many b many false (Decidable.not_not.1 fun h2 => h1 (.inl h2))
theorem numsT_er (b : List Int) (many : Int) : (numsT b many).2 = 0 ∨ (numsT b many = ([], 2)) := by
  unfold numsT
  split
  · exact .inr rfl
  · exact .inl rfl
/-- Bytes cut into texts, by their lengths. -/
def cutX : List Int → List Int → Option (List ByteArray)
  | b, [] => if b = [] then some [] else none
  | b, k :: r => if 300 < k ∨ (b.length : Int) < k then none else (cutX (b.drop k.toNat) r).map (strOf (b.take k.toNat) :: ·)
def optT : Option (List ByteArray) → List ByteArray × Int
  | none => ([], 2)
  | some l => (l, 0)
def cutT (b lens : List Int) (many : Int) : List ByteArray × Int :=
  if (numsT lens many).2 ≠ 0 then ([], 2) else optT (cutX b (numsT lens many).1)
/-- Texts by their places among words. -/
def indexT (W : List ByteArray) : List Int → Option (List ByteArray)
  | [] => some []
  | i :: r => match W[i.toNat]? with
    | none => none
    | some s => (indexT W r).map (s :: ·)
def risingB (W : List ByteArray) : Bool := (List.range (W.length - 1)).all fun i => decide ((W.getD i ⟨#[]⟩).data.toList < (W.getD (i + 1) ⟨#[]⟩).data.toList)
def streamT (S : List (Int × List Int)) (i : Nat) : List Int := (S.getD i (0, [])).2
/-- What a column is taken as. -/
def takeT (c : ColT) : List ByteArray × Int :=
  if c.many < 0 ∨ 4096 < c.many then ([], 1)
  else if c.enc = 1 ∧ c.st.map Prod.fst = [2, 3] then cutT (streamT c.st 0) (streamT c.st 1) c.many
  else if c.enc = 2 ∧ c.st.map Prod.fst = [2, 3, 4] ∧ 0 ≤ c.texts ∧ c.texts ≤ 4096 then
    if (numsT (streamT c.st 0) c.many).2 ≠ 0 ∨ (cutT (streamT c.st 2) (streamT c.st 1) c.texts).2 ≠ 0 ∨ risingB (cutT (streamT c.st 2) (streamT c.st 1) c.texts).1 = false then ([], 2)
    else optT (indexT (cutT (streamT c.st 2) (streamT c.st 1) c.texts).1 (numsT (streamT c.st 0) c.many).1)
  else ([], 2)
def NumsOut (w : World) (l : List Int) (er : Int) (e : Ending) (w' : World) : Prop :=
  ∃ G n c, e = .returned (.tuple #[.slice G n c, .int .i64 er]) ∧ Sl w' .i64 G n c l ∧ Below w.heap.size w w'
def StrErr (w : World) (l : List ByteArray) (er : Int) (e : Ending) (w' : World) : Prop :=
  ∃ G n c, e = .returned (.tuple #[.slice G n c, .int .i64 er]) ∧ Rs w' G n l ∧ n ≤ c ∧ c ≤ 9223372036854775807 ∧ Below w.heap.size w w'

set_option maxRecDepth 100000 in
set_option maxHeartbeats 2000000 in
theorem numbers_any (w : World) (A : Option Addr) (n cap : Nat) (b : List Int) (hr : Ri w .u8 A n b) (hu : U8 b) (hc : n ≤ cap) (hm : cap ≤ 9223372036854775807) (hn : n ≤ 100000) (many : Int) :
    Calls Tryz.prog 48 #[.slice A n cap, .int .i64 many] w (NumsOut w (numsT b many).1 (numsT b many).2) := by
  have HR := Lib.hid hr; have HU := Lib.hid hu
  clear hr hu
  obtain ⟨l, r, er, hp⟩ : ∃ l r er, takeGl b many false = (l, r, er) := ⟨_, _, _, rfl⟩
  have HP := Lib.hid hp
  have HN : Hid (numsT b many = if er ≠ 0 ∨ r ≠ [] then ([], 2) else (l, 0)) := Lib.hid (by unfold numsT; rw [hp])
  clear hp
  go_enter Tryz.func48, Tryz.ntmps48
  go_wp2_with fail
  refine (TakeGl_any w A n cap b HR.out HU.out hc hm hn many false l r er HP.out).mono ?_; rintro e w1 ⟨G, n1, c1, G2, n2, c2, rfl, hs1, hs2, hb1⟩
  have HS1 := Lib.hid hs1; have HB1 := Lib.hid hb1
  have hl2 := hs2.1.len
  clear hs1 hs2 hb1
  by_cases he : er = 0
  · subst he
    by_cases h2 : n2 = 0
    · have hr0 : r = [] := List.eq_nil_of_length_eq_zero (by omega)
      have HV : Hid (numsT b many = (l, 0)) := Lib.hid (by rw [HN.out, if_neg (by rw [hr0]; simp)])
      have t1 : decide ((0 : Int) < n2) = false := decide_eq_false (by omega)
      go_wp2_with fail
      go_ret2
      rw [HV.out]
      exact ⟨_, _, _, rfl, HS1.out, HB1.out⟩
    · have HV : Hid (numsT b many = ([], 2)) := Lib.hid (by rw [HN.out, if_pos (.inr fun h => h2 (by rw [← hl2, h]; rfl))])
      have t1 : decide ((0 : Int) < n2) = true := decide_eq_true (by omega)
      go_wp2_with fail
      go_ret2
      rw [HV.out]
      exact ⟨_, _, _, rfl, Sl.nil _ _, HB1.out⟩
  · have HV : Hid (numsT b many = ([], 2)) := Lib.hid (by rw [HN.out, if_pos (.inl he)])
    have t1 : (er != 0) = true := by simp [he]
    go_wp2_with fail
    go_ret2
    rw [HV.out]
    exact ⟨_, _, _, rfl, Sl.nil _ _, HB1.out⟩

theorem strOf_extract (b : List Int) (k : Nat) : (strOf b).extract 0 k = strOf (b.take k) := by
  refine key_inj ?_
  show ((strOfNums b).extract 0 k).data.toList = (strOfNums (b.take k)).data.toList
  rw [strOfNums_data]
  simp [strOfNums_data]
theorem strOf_rest (b : List Int) (k : Nat) : (strOf b).extract k b.length = strOf (b.drop k) := by
  refine key_inj ?_
  show ((strOfNums b).extract k b.length).data.toList = (strOfNums (b.drop k)).data.toList
  rw [strOfNums_data]
  simp [strOfNums_data]
  rw [List.take_of_length_le (by rw [List.length_drop, List.length_map]; omega)]
theorem strOf_size (b : List Int) : (strOf b).size = b.length := by
  have h : (strOfNums b).data.toList.length = b.length := by rw [strOfNums_data]; simp
  rw [Array.length_toList] at h
  exact h
end Go.Proofs.YtmejoococajikaaGreat

/- texts.cut. -/
namespace Go.Proofs.YtmejoococajikaaGreat
open Go.RowKit

theorem step_strT {w : World} {ops : Array Oper} {o : Oper} {a : Act} {K : Act → World → Prop} {Q : Exit → Act → World → Prop} {E : Prop} (hgd : o.guard = none) (s x : Operand)
    (ho : o.op = .call { callee := .builtin .append, args := #[s, x], argTypes := #[22, 22] })
    (base : Nat) (v : Value) (n : Nat) (l : List ByteArray) (hs : a.eval s = v) (hown : w.ownsRow base 9 1 v n (l.map Value.string))
    (A : Option Addr) (m c : Nat) (l2 : List ByteArray) (hx : a.eval x = .slice A m c) (hr : Rs w A m l2) (hb : n + m ≤ 2000000000) (hbase : base ≤ w.heap.size)
    (h : ∀ G cap w', w'.ownsRow base 9 1 (.slice G (n + m) cap) (n + m) ((l ++ l2).map Value.string) → w.grownBy w' v.ownBlock → n + m ≤ cap → K (a.put o.dst (.slice G (n + m) cap)) w') :
    if Region.wanted o (yielded ops a.tmps) = true then Oper.wp Tryz.prog o a w K Q else E := by
  have hw : Region.wanted o (yielded ops a.tmps) = true := by simp [Region.wanted, hgd]
  rw [if_pos hw]
  obtain ⟨i0, hi, hz0, hz1, hz2⟩ := info_parts info_str
  refine wp_append_any w s x 22 ho base 9 i0 (.string ⟨#[]⟩) 1 16 Tryz.underlying22 hi hz0 hz1 hz2 rfl (by decide) v n _ hs hown A m c _ hx hr (str_one _) (by unfold maxLen; omega) (by omega) hbase ?_
  intro G cap w' h1 h2 _ h4
  rw [← List.map_append] at h1
  exact h G cap w' h1 h2 h4
theorem cutS_step {b : List Int} {k : Nat} {r : List Int} (h : ¬ (300 < (k : Int) ∨ (b.length : Int) < k)) : cutX b ((k : Int) :: r) = (cutX (b.drop k) r).map (strOf (b.take k) :: ·) := by
  rw [cutX, if_neg h, Int.toNat_natCast]
set_option maxRecDepth 100000 in
set_option maxHeartbeats 4000000 in
theorem cutS_any (w : World) (A B : Option Addr) (n cap m cap2 : Nat) (b lens : List Int) (hr : Ri w .u8 A n b) (hu : U8 b) (hc : n ≤ cap) (hm : cap ≤ 9223372036854775807) (hn : n ≤ 100000) (hr2 : Ri w .u8 B m lens) (hu2 : U8 lens) (hc2 : m ≤ cap2) (hm2 : cap2 ≤ 9223372036854775807) (hn2 : m ≤ 100000) (many : Int) :
    Calls Tryz.prog 29 #[.slice A n cap, .slice B m cap2, .int .i64 many] w (StrErr w (cutT b lens many).1 (cutT b lens many).2) := by
  have HR := Lib.hid hr; have HU := Lib.hid hu; have HR2 := Lib.hid hr2; have HU2 := Lib.hid hu2
  have hbl := hr.len
  clear hr hu hr2 hu2
  obtain ⟨N, er, hN⟩ : ∃ N er, numsT lens many = (N, er) := ⟨_, _, rfl⟩
  have HN := Lib.hid hN
  have HC : Hid (cutT b lens many = if er ≠ 0 then (([], 2) : List ByteArray × Int) else optT (cutX b N)) := Lib.hid (by unfold cutT; rw [hN])
  have HNN : Hid (∀ y ∈ N, 0 ≤ y) := Lib.hid (by have := numsT_nn lens many; rwa [hN] at this)
  have HNG : Hid (I64 N ∧ N.length ≤ 4096) := Lib.hid (by have := numsT_good lens many HU2.out; rwa [hN] at this)
  have her : er = 0 ∨ (er = 2 ∧ N = []) := by
    rcases numsT_er lens many with h | h <;> rw [hN] at h
    · exact .inl h
    · injection h with h1 h2; exact .inr ⟨h2, h1⟩
  clear hN
  go_enter Tryz.func29, Tryz.ntmps29
  go_wp2_with fail
  refine (numbers_any w B m cap2 lens HR2.out HU2.out hc2 hm2 hn2 many).mono ?_; rintro e w1 ⟨G, n1, c1, rfl, hs1, hb1⟩
  rw [HN.out] at hs1 ⊢
  have HS1 := Lib.hid hs1; have HB1 := Lib.hid hb1
  have HR1 := Lib.hid (HR.out.below hb1)
  have hnl := hs1.1.len
  clear hs1 hb1
  rcases her with rfl | ⟨rfl, rfl⟩
  · have va := conv_any (c := cap) HR1.out
    have HO : Hid (w1.ownsRow w1.heap.size 9 1 (.slice none 0 0) 0 (([] : List ByteArray).map Value.string)) := Lib.hid ⟨by simp, .inl ⟨rfl, rfl⟩⟩
    have HCX : Hid (cutT b lens many = optT (cutX b N)) := Lib.hid (by rw [HC.out, if_neg (by simp)])
    have HALL := Lib.hid (fun h0 => HS1.out.1.2 h0)
    have hlim := HNG.out.2
    go_wp2_with fail
    go_loopg [10, 11, 27] n1 (fun gg v10 v11 v wr => ∃ (j : Nat) (O : List ByteArray) (bb : List Int), v = .int .i64 j ∧ v11 = .string (strOf bb) ∧ j ≤ n1 ∧ n1 - j ≤ gg ∧ Hid (wr.ownsRow w1.heap.size 9 1 v10 j (O.map Value.string)) ∧ bb.length ≤ b.length ∧ Hid (cutX b N = (cutX bb (N.drop j)).map (O ++ ·)) ∧ Hid (Below w1.heap.size w1 wr))
    case atStart => exact ⟨0, [], b, rfl, rfl, by omega, by omega, HO, Nat.le_refl _, Lib.hid (by rw [List.drop_zero]; cases cutX b N <;> rfl), Lib.hid (Below.refl _ _)⟩
    case round =>
    obtain ⟨j, O, bb, rfl, rfl, hjn, hgg, ho, hbb, hcx, hb⟩ := hrel
    obtain ⟨GO, cO, hGO⟩ := own_form ho.out
    subst hGO
    have hsz := strOf_size bb
    have hz := hb.out.size
    by_cases hlt : j < n1
    · have t1 : decide (j < n1) = true := decide_eq_true hlt
      obtain ⟨gb, go, hG, hgb, hcells⟩ := HALL.out (by omega)
      have hj : j < N.length := by omega
      have cj := (hb.out.cell (p := ⟨gb, go + j, none⟩) hgb).trans (hcells j _ (by rw [List.getElem?_map, List.getElem?_eq_getElem hj]; rfl))
      have HDR := Lib.hid (List.drop_eq_getElem_cons hj)
      have h0 := HNN.out _ (List.getElem_mem hj)
      have h64 := HNG.out.1 _ (List.getElem_mem hj)
      obtain ⟨k, hk⟩ : ∃ k : Nat, N[j] = (k : Int) := ⟨N[j].toNat, by omega⟩
      rw [hk] at cj HDR h64
      subst hG
      clear hcells hk h0
      by_cases hbad : 300 < (k : Int) ∨ (bb.length : Int) < k
      · have hmin : decide (min (300 : Int) ((strOf bb).size : Int) < (k : Int)) = true := decide_eq_true (by omega)
        have HV : Hid (cutT b lens many = ([], 2)) := Lib.hid (by rw [HCX.out, hcx.out, HDR.out, cutX, if_pos hbad]; rfl)
        go_wp2_with fail
        go_ret2
        rw [HV.out]
        exact ⟨_, _, _, rfl, Rs.nil _ _, Nat.le_refl _, by omega, on HB1.out hb.out⟩
      · have hmin : decide (min (300 : Int) ((strOf bb).size : Int) < (k : Int)) = false := decide_eq_false (by omega)
        have hk1 : k ≤ bb.length := by omega
        have hex1 := strOf_extract bb k
        have hex2 := strOf_rest bb k
        go_wp2_with fail
        go_region_law (first
          | (refine step_strT rfl (.tmp 36) (.tmp 40) rfl w1.heap.size (.slice GO j cO) j O (by kernel_rfl) (by first | exact (ho.out.alloc _).drew | exact ho.out.drew.alloc _ | exact ho.out.alloc _) _ 1 1 [strOf (bb.take k)] (by kernel_rfl) (by first | exact Rs.one _ _ _ | exact (Rs.one _ _ _).drewN 1) (by omega) (by simp; omega) ?_; intro G2 c2 w2 ho2 hg2 _))
        have HB2 : Hid (Below w1.heap.size w1 w2) := Lib.hid (((bdN hb.out 1).alloc (by show w1.heap.size ≤ wr.heap.size; omega) _).grown hg2 (by rw [World.size_alloc]; show w1.heap.size ≤ wr.heap.size + 1; omega) (fun g e => (ho.out.lt g e).1))
        rw [show O ++ [strOf (bb.take k)] = O ++ [strOf (bb.take k)] from rfl] at ho2
        have HO2 := Lib.hid ho2
        have HX2 : Hid (cutX b N = (cutX (bb.drop k) (N.drop (j + 1))).map ((O ++ [strOf (bb.take k)]) ++ ·)) := Lib.hid (by
          rw [hcx.out, HDR.out, cutS_step hbad, Option.map_map]
          congr 1
          funext x
          simp)
        clear ho2 hg2
        go_wp2_with fail
        go_roundg (n1 - (j + 1))
        case measure => omega
        case rel => exact ⟨j + 1, _, bb.drop k, by go_num, rfl, by omega, by omega, HO2, by rw [List.length_drop]; omega, HX2, HB2⟩
    · have t1 : decide (j < n1) = false := decide_eq_false hlt
      obtain rfl : j = n1 := by omega
      have hnd : N.drop j = [] := List.drop_of_length_le (by omega)
      have hcap := own_cap ho.out
      by_cases hb0 : bb = []
      · have HV : Hid (cutT b lens many = (O, 0)) := Lib.hid (by rw [HCX.out, hcx.out, hnd, cutX, if_pos hb0]; simp [optT])
        have e1 : (strOf bb).toList.isEmpty = true := by rw [hb0, strOf_toList]; rfl
        clear hb0
        go_wp2_with fail
        go_ret2
        rw [HV.out]
        exact ⟨_, _, _, rfl, Rs.of_own ho.out, hcap.1, hcap.2, on HB1.out hb.out⟩
      · have HV : Hid (cutT b lens many = ([], 2)) := Lib.hid (by rw [HCX.out, hcx.out, hnd, cutX, if_neg hb0]; rfl)
        have e1 : (strOf bb).toList.isEmpty = false := by
          rw [strOf_toList]
          cases bb with
          | nil => exact absurd rfl hb0
          | cons x r => rfl
        clear hb0
        go_wp2_with fail
        go_ret2
        rw [HV.out]
        exact ⟨_, _, _, rfl, Rs.nil _ _, Nat.le_refl _, by omega, on HB1.out hb.out⟩
  · have HV : Hid (cutT b lens many = ([], 2)) := Lib.hid (by rw [HC.out, if_pos (by decide)])
    go_wp2_with fail
    go_ret2
    rw [HV.out]
    exact ⟨_, _, _, rfl, Rs.nil _ _, Nat.le_refl _, by omega, HB1.out⟩
end Go.Proofs.YtmejoococajikaaGreat

/- Joined texts: Flush. Each has its own head line. No condition beyond those that its theorems state. -/
import Derived.Deep.RegionLaw
import Derived.Test.YtbmooemlekckbaaDoorJ27
import Derived.Test.YtbmooemlekckbaaDoorJ26
set_option linter.unusedVariables false

/- byterle.Put's closure that lays lists down. -/
namespace Go.Proofs.YtbmooemlekckbaaDoor
open Go.RowKit

/-- Whatever holds no bytes, and is neither of two blocks, is as it was. -/
def Keeps8 (bl bo : Nat) (w w' : World) : Prop :=
  w.heap.size ≤ w'.heap.size ∧ ∀ k o, w.heap[k]? = some o → (∀ cs f, o ≠ .cells cs 5 f) → k ≠ bl → k ≠ bo → w'.heap[k]? = some o
theorem Keeps8.refl (bl bo : Nat) (w : World) : Keeps8 bl bo w w := ⟨Nat.le_refl _, fun _ _ h _ _ _ => h⟩
theorem Keeps8.trans {bl bo : Nat} {a b c : World} (h : Keeps8 bl bo a b) (k : Keeps8 bl bo b c) : Keeps8 bl bo a c :=
  ⟨Nat.le_trans h.1 k.1, fun i o hi ho h1 h2 => k.2 i o (h.2 i o hi ho h1 h2) ho h1 h2⟩
theorem Keeps8.alloc (bl bo : Nat) (w : World) (o : Obj) : Keeps8 bl bo w (w.alloc o) :=
  ⟨by simp, fun k o' hk _ _ _ => (Below.heap_alloc w o k (Array.getElem?_eq_some_iff.1 hk).1).trans hk⟩
theorem Keeps8.drew (bl bo : Nat) (w : World) : Keeps8 bl bo w w.drew := ⟨Nat.le_refl _, fun _ _ h _ _ _ => h⟩
theorem Keeps8.drewN (bl bo : Nat) (w : World) (n : Nat) : Keeps8 bl bo w (w.drewN n) := ⟨Nat.le_refl _, fun _ _ h _ _ _ => h⟩
theorem Keeps8.set_ (bl bo : Nat) (w : World) (p : Addr) (v : Value) (hp : p.block = bl ∨ p.block = bo) : Keeps8 bl bo w (w.setCell p v) :=
  ⟨by simp [World.setCell], fun k o hk _ h1 h2 => (Below.heap_setCell w p v k (by rcases hp with e | e <;> rw [e] <;> assumption)).trans hk⟩
theorem Keeps8.grown {bl bo : Nat} {w w' : World} {v : Value} (hg : w.grownBy w' v.ownBlock) (hv : ∀ g, v.ownBlock = some g → ∃ cur, Blk w g 5 cur) : Keeps8 bl bo w w' :=
  ⟨hg.size, fun k o hk ho _ _ => by
    refine (hg.block k (Array.getElem?_eq_some_iff.1 hk).1 ?_).trans hk
    intro e
    obtain ⟨cur, h⟩ := hv k e.symm
    unfold Blk at h
    rw [hk] at h
    injection h with h
    exact ho _ _ h⟩
theorem Keeps8.below {bl bo : Nat} {w w' : World} (hb : Below w.heap.size w w') : Keeps8 bl bo w w' := ⟨hb.size, fun k _ hk _ _ _ => (hb.block k (Array.getElem?_eq_some_iff.1 hk).1).trans hk⟩
theorem own_blk {w : World} {B n : Nat} {e : TypeId} {v : Value} {xs : List Value} (h : w.ownsRow B e 1 v n xs) : ∀ g, v.ownBlock = some g → ∃ cur, Blk w g e cur := by
  intro g hg
  rcases h.2 with ⟨rfl, _⟩ | ⟨g', cap, cur, rfl, _, h2, _⟩
  · simp [Value.ownBlock] at hg
  · simp [Value.ownBlock] at hg
    subst hg
    exact ⟨cur, h2⟩
theorem cut_blk {w : World} {B n : Nat} {e : TypeId} {v : Value} {xs : List Value} (h : OwnCut w B e v n xs) : ∀ g, v.ownBlock = some g → ∃ cur, Blk w g e cur := fun g hg => (h.lt g hg).2.2
theorem blk_ne {w : World} {g g' : Nat} {t t' : TypeId} {c c' : Array Value} (h : Blk w g t c) (h' : Blk w g' t' c') (hne : t ≠ t') : g ≠ g' := by
  rintro rfl
  unfold Blk at h h'
  rw [h] at h'
  injection h' with h'
  injection h' with _ h'
  exact hne h'

theorem apart_cut {w w' : World} {B n : Nat} {e : TypeId} {u v : Value} {xs : List Value} (h : Apart u v) (ho : OwnCut w B e v n xs) (hg : w.grownBy w' u.ownBlock) : OwnCut w' B e v n xs :=
  ho.kept hg (by
    cases hv : v.ownBlock with
    | none => exact .inl rfl
    | some g => exact .inr (fun e2 => h g e2.symm hv))
theorem own_far {w : World} {B n g : Nat} {e t : TypeId} {v : Value} {xs : List Value} {c : Array Value} (h : w.ownsRow B e 1 v n xs) (hb : Blk w g t c) (hne : e ≠ t) : v.ownBlock ≠ some g := by
  intro e2
  obtain ⟨cur, h2⟩ := own_blk h _ e2
  exact blk_ne h2 hb hne rfl
/-- The two boxes, of the list that waits and of what is laid down. -/
def PutB (w0 w : World) (B bl bo : Nat) (p o : List Int) : Prop :=
  ∃ lv ov, Blk w bl 27 #[lv] ∧ Blk w bo 27 #[ov] ∧ OwnCut w B 5 lv p.length (p.map (Value.int .u8)) ∧ w.ownsRow B 5 1 ov o.length (o.map (Value.int .u8)) ∧ Apart ov lv ∧ Below B w0 w ∧ Keeps8 bl bo w0 w
def lenAt (w : World) (b : Nat) : Nat := match w.cell? ⟨b, 0, none⟩ with | some (.slice _ n _) => n | _ => 0
theorem lenAt_of {w : World} {b : Nat} {t : TypeId} {A : Option Addr} {n c : Nat} (h : Blk w b t #[.slice A n c]) : lenAt w b = n := by
  unfold lenAt
  rw [h.cell]; simp
def FlushOut (w : World) (B bl bo : Nat) (o : List Int) (e : Ending) (w' : World) : Prop := e = .returned (.tuple #[]) ∧ PutB w w' B bl bo [] o
theorem u8_neg (m : Nat) (h1 : 1 ≤ m) (h2 : m ≤ 128) : IntKind.u8.wrap (-(m : Int)) = 256 - (m : Int) := by rw [IntKind.wrap_u8]; omega

theorem Apart.grown_cut {w : World} {B n : Nat} {e : TypeId} {u u' v : Value} {xs : List Value} (h : Apart u v) (ho : OwnCut w B e v n xs) {N : Nat} (hN : w.heap.size ≤ N) (hu : u'.ownBlock = u.ownBlock ∨ u'.ownBlock = some N) : Apart u' v := by
  intro g h1 h2
  rcases hu with hu | hu
  · exact h g (hu.symm.trans h1) h2
  · have := (ho.lt g h2).2.1
    rw [hu] at h1
    injection h1 with h1
    omega
theorem Keeps8.grown1 {bl bo : Nat} {w x w' : World} {v : Value} (h : Keeps8 bl bo w x) (hg : x.grownBy w' v.ownBlock) (hv : ∀ g, v.ownBlock = some g → ∃ cur, Blk x g 5 cur) : Keeps8 bl bo w w' := h.trans (Keeps8.grown hg hv)
theorem setCell_grown (w : World) (b o : Nat) (v : Value) : w.grownBy (w.setCell ⟨b, o, none⟩ v) (some b) := setCells_grown b [v] o w
theorem flush_end {w w2 : World} {B bl bo : Nat} {p' o' : List Int} {m lc g2 lg lo : Nat} {G2 : Option Addr} {ov : Value} (hne : bl ≠ bo) (hB1 : B ≤ bl) (hB2 : B ≤ bo) (hm1 : 1 ≤ m) (hm3 : m ≤ p'.length)
    (hl : Blk w2 bl 27 #[.slice (some ⟨lg, lo, none⟩) p'.length lc]) (hob : Blk w2 bo 27 #[ov]) (hlo : OwnCut w2 B 5 (.slice (some ⟨lg, lo, none⟩) p'.length lc) p'.length (p'.map (Value.int .u8)))
    (ho : w2.ownsRow B 5 1 (.slice G2 (o'.length + 1 + m) g2) (o'.length + 1 + m) ((o' ++ [256 - (m : Int)] ++ p'.take m).map (Value.int .u8))) (hap : Apart (.slice G2 (o'.length + 1 + m) g2) (.slice (some ⟨lg, lo, none⟩) p'.length lc))
    (hb : Below B w w2) (hk : Keeps8 bl bo w w2) :
    PutB w ((w2.setCell ⟨bo, 0, none⟩ (.slice G2 (o'.length + 1 + m) g2)).setCell ⟨bl, 0, none⟩ (.slice (if lc = m then some ⟨lg, lo, none⟩ else some ⟨lg, lo + m, none⟩) (p'.length - m) (lc - m))) B bl bo (p'.drop m) (o' ++ [256 - (m : Int)] ++ p'.take m) := by
  have hlen : (o' ++ [256 - (m : Int)] ++ p'.take m).length = o'.length + 1 + m := by rw [List.length_append, List.length_append, List.length_singleton, List.length_take]; omega
  have k1 : (Value.slice G2 (o'.length + 1 + m) g2).ownBlock ≠ some bo := own_far ho hob (by decide)
  have k2 : (Value.slice G2 (o'.length + 1 + m) g2).ownBlock ≠ some bl := own_far ho hl (by decide)
  have k3 : ∀ g c, Blk w2 g 27 c → (Value.slice (some ⟨lg, lo, none⟩) p'.length lc).ownBlock ≠ some g := by
    intro g c hg e2
    obtain ⟨_, _, cur, h2⟩ := hlo.lt _ e2
    exact blk_ne h2 hg (by decide) rfl
  obtain ⟨lg', lo', hG, hcut⟩ := ((hlo.kept (setCell_grown w2 bo 0 (.slice G2 (o'.length + 1 + m) g2)) (.inr (k3 bo _ hob))).kept (setCell_grown _ bl 0 (.slice (if lc = m then some ⟨lg, lo, none⟩ else some ⟨lg, lo + m, none⟩) (p'.length - m) (lc - m))) (.inr (k3 bl _ hl))).cut hm3 hm1
  injection hG with hG
  injection hG with hG1 hG2
  subst hG1 hG2
  rw [← List.map_drop] at hcut
  refine ⟨.slice (if lc = m then some ⟨lg, lo, none⟩ else some ⟨lg, lo + m, none⟩) (p'.length - m) (lc - m), .slice G2 (o'.length + 1 + m) g2, ?_, ?_, ?_, ?_, ?_, ?_, ?_⟩
  · exact (hl.far (p := ⟨bo, 0, none⟩) hne _).set_ 0 _
  · exact (hob.set_ 0 (.slice G2 (o'.length + 1 + m) g2)).far (p := ⟨bl, 0, none⟩) (Ne.symm hne) _
  · rw [List.length_drop]; exact hcut
  · rw [hlen]
    exact (ho.kept (setCell_grown w2 bo 0 _) (.inr k1)).kept (setCell_grown _ bl 0 _) (.inr k2)
  · intro g h1 h2
    refine hap g h1 ?_
    by_cases hck : lc = m
    · rw [if_pos hck] at h2; exact h2
    · rw [if_neg hck] at h2; exact h2
  · exact (hb.setCell hB2 _).setCell hB1 _
  · exact (hk.trans (Keeps8.set_ bl bo w2 ⟨bo, 0, none⟩ _ (.inr rfl))).trans (Keeps8.set_ bl bo _ ⟨bl, 0, none⟩ _ (.inl rfl))

theorem flush_rel {w w2 : World} {B bl bo : Nat} {p' o' res : List Int} {m lc g2 lg lo : Nat} {G2 : Option Addr} {ov : Value} (hne : bl ≠ bo) (hB1 : B ≤ bl) (hB2 : B ≤ bo) (hm1 : 1 ≤ m) (hm3 : m ≤ p'.length) (hm : m = min p'.length 128)
    (hl : Blk w2 bl 27 #[.slice (some ⟨lg, lo, none⟩) p'.length lc]) (hob : Blk w2 bo 27 #[ov]) (hlo : OwnCut w2 B 5 (.slice (some ⟨lg, lo, none⟩) p'.length lc) p'.length (p'.map (Value.int .u8)))
    (ho : w2.ownsRow B 5 1 (.slice G2 (o'.length + 1 + m) g2) (o'.length + 1 + m) ((o' ++ [256 - (m : Int)] ++ p'.take m).map (Value.int .u8))) (hap : Apart (.slice G2 (o'.length + 1 + m) g2) (.slice (some ⟨lg, lo, none⟩) p'.length lc))
    (hb : Below B w w2) (hk : Keeps8 bl bo w w2) (hch : o' ++ chunks p' = res) (hpl : p'.length ≤ 5000) (hol : o'.length + 2 * p'.length ≤ 20000) :
    ∃ p2 o2 : List Int, Hid (PutB w ((w2.setCell ⟨bo, 0, none⟩ (.slice G2 (o'.length + 1 + m) g2)).setCell ⟨bl, 0, none⟩ (.slice (if lc = m then some ⟨lg, lo, none⟩ else some ⟨lg, lo + m, none⟩) (p'.length - m) (lc - m))) B bl bo p2 o2) ∧ Hid (o2 ++ chunks p2 = res) ∧ p2.length ≤ 5000 ∧ o2.length + 2 * p2.length ≤ 20000 := by
  rw [chunks_eq p' (by omega), ← hm] at hch
  have ht : p'.take 128 = p'.take m ∧ p'.drop 128 = p'.drop m := by
    rcases Nat.le_total p'.length 128 with h | h
    · rw [show m = p'.length from by omega]
      exact ⟨by rw [List.take_of_length_le h, List.take_of_length_le (Nat.le_refl _)], by rw [List.drop_of_length_le h, List.drop_of_length_le (Nat.le_refl _)]⟩
    · rw [show m = 128 from by omega]; exact ⟨rfl, rfl⟩
  rw [ht.1, ht.2] at hch
  refine ⟨p'.drop m, o' ++ [256 - (m : Int)] ++ p'.take m, flush_end hne hB1 hB2 hm1 hm3 hl hob hlo ho hap hb hk, Lib.hid ?_, ?_, ?_⟩
  · rw [← hch]; simp
  · rw [List.length_drop]; omega
  · rw [List.length_drop, List.length_append, List.length_append, List.length_singleton, List.length_take]; omega

set_option maxRecDepth 100000 in
set_option maxHeartbeats 2000000 in
theorem flush_any (w : World) (B bl bo : Nat) (p o : List Int) (h : PutB w w B bl bo p o) (hB : B ≤ bl ∧ B ≤ bo) (hne : bl ≠ bo) (hp : p.length ≤ 5000) (ho : o.length ≤ 10000) (res : List Int) (hres : o ++ chunks p = res) :
    Calls Tryd.prog 29 #[.pointer (some ⟨bl, 0, none⟩), .pointer (some ⟨bo, 0, none⟩)] w (FlushOut w B bl bo res) := by
  have H := Lib.hid h; have HRES := Lib.hid hres
  obtain ⟨hB1, hB2⟩ := hB
  have hne' := hne.symm
  clear h hres
  go_enter Tryd.func29, Tryd.ntmps29
  go_wp2_with fail
  go_loopw [2] (fun _ wr => ∃ p' o' : List Int, Hid (PutB w wr B bl bo p' o') ∧ Hid (o' ++ chunks p' = res) ∧ p'.length ≤ 5000 ∧ o'.length + 2 * p'.length ≤ 20000) (fun _ wr => lenAt wr bl)
  case atStart => exact ⟨p, o, H, HRES, hp, by omega⟩
  case round =>
    obtain ⟨p', o', hpb, hch, hpl, hol⟩ := hrel
    obtain ⟨lv, ov, hl, hob, hlo, hoo, hap, hbe, hk8⟩ := hpb.out
    obtain ⟨LA, lc, rfl, hlc1, hlc2⟩ := hlo.form
    have c1 : wr.cell? ⟨bl, 0, none⟩ = some (.slice LA p'.length lc) := hl.cell 0
    have c2 : wr.cell? ⟨bo, 0, none⟩ = some ov := hob.cell 0
    have f1 := hl.frozen 0
    have f2 := hob.frozen 0
    have HL := Lib.hid hl; have HOB := Lib.hid hob; have HLO := Lib.hid hlo; have HOO := Lib.hid hoo; have HAP := Lib.hid hap; have HBE := Lib.hid hbe; have HK8 := Lib.hid hk8
    clear hl hob hlo hoo hap hbe hk8
    rcases Nat.eq_zero_or_pos p'.length with h0 | h0
    · obtain rfl : p' = [] := List.eq_nil_of_length_eq_zero h0
      have hch' := hch.out
      rw [chunks_nil, List.append_nil] at hch'
      subst hch'
      go_wp2_with fail
      go_end0
      exact ⟨rfl, hpb.out⟩
    · obtain ⟨m, hm⟩ : ∃ m, m = min p'.length 128 := ⟨_, rfl⟩
      have hm1 : 1 ≤ m ∧ m ≤ 128 ∧ m ≤ p'.length := by omega
      obtain ⟨hm1, hm2, hm3⟩ := hm1
      have hmi : (if (128 : Int) < p'.length then (128 : Int) else (p'.length : Int)) = m := by split <;> omega
      have HM := Lib.hid hm; clear hm
      have hneg := u8_neg m hm1 hm2
      have hneg0 : IntKind.i64.wrap (-(m : Int)) = -(m : Int) := IntWalk.i64_in _ (by omega)
      have HN1 := Lib.hid hneg; have HN0 := Lib.hid hneg0; clear hneg hneg0
      have ab1 : ov.ownBlock ≠ some bl := fun e => by obtain ⟨cur, h⟩ := own_blk HOO.out _ e; exact blk_ne h HL.out (by decide) rfl
      have ab2 : ov.ownBlock ≠ some bo := fun e => by obtain ⟨cur, h⟩ := own_blk HOO.out _ e; exact blk_ne h HOB.out (by decide) rfl
      obtain ⟨lg, lo, hLA, _, hcl⟩ := HLO.out.rd.2 h0
      subst hLA
      have hcl0 := Lib.hid hcl; clear hcl
      have hm4 : (0 : Int) ≤ (m : Int) := by omega
      have hm5 : (m : Int) ≤ (lc : Int) := by omega
      have lb1 := HL.out.lt
      have lb2 := HOB.out.lt
      have hBw : B ≤ wr.heap.size := by omega
      go_wp2_with fail
      go_region_law (first
          | (refine step_u8 rfl (.tmp 9) (.tmp 13) rfl B ov o'.length o' (by kernel_rfl) (by first | exact (HOO.out.alloc _).drew | exact HOO.out.drew.alloc _ | exact HOO.out.alloc _) _ 1 1 [_] (by kernel_rfl) (by first | exact Rd.one _ _ _ | exact (Rd.one _ _ _).drew) (by omega) (by simp; omega) ?_; intro G1 g1 w1 hown1 hgrow hat1; have HL1 := Lib.hid (Blk.grown (by first | exact (HL.out.alloc _).drew | exact HL.out.drew.alloc _ | exact HL.out.alloc _) hgrow (Ne.symm ab1)); have HOB1 := Lib.hid (Blk.grown (by first | exact (HOB.out.alloc _).drew | exact HOB.out.drew.alloc _ | exact HOB.out.alloc _) hgrow (Ne.symm ab2)); have HLO1 := Lib.hid (apart_cut HAP.out (by first | exact (HLO.out.alloc _).drew | exact HLO.out.drew.alloc _ | exact HLO.out.alloc _) hgrow); have ab3 := own_far hown1 HL1.out (by decide); have ab4 := own_far hown1 HOB1.out (by decide); have hz1 := hgrow.size; have HAP1 := Lib.hid (Apart.grown_cut HAP.out HLO.out (by simp) hat1); have HBE1 := Lib.hid (below_of_grown (by first | exact (HBE.out.alloc hBw _).drew | exact HBE.out.drew.alloc hBw _ | exact HBE.out.alloc hBw _) hgrow (by simp; omega) (fun g hg => (HOO.out.lt g hg).1)); have HK1 := Lib.hid (HK8.out.trans (Keeps8.grown1 (by first | exact (Keeps8.alloc _ _ _ _).trans (Keeps8.drew _ _ _) | exact (Keeps8.drew _ _ _).trans (Keeps8.alloc _ _ _ _) | exact Keeps8.alloc _ _ _ _) hgrow (by first | exact own_blk (HOO.out.alloc _).drew | exact own_blk (HOO.out.drew.alloc _) | exact own_blk (HOO.out.alloc _)))); have c3 : w1.cell? ⟨bl, 0, none⟩ = some (.slice (some ⟨lg, lo, none⟩) p'.length lc) := HL1.out.cell 0)
          | (refine step_u8 rfl (.tmp 14) (.tmp 17) rfl B _ (o'.length + 1) _ (by kernel_rfl) hown1 (some ⟨lg, lo, none⟩) m lc (p'.take m) (by kernel_rfl) (Ri.first (OwnCut.rd HLO1.out) hm3) (by omega) (by simp at hz1; omega) ?_; intro G2 g2 w2 hown2 hgrow2 hat2; have HL2 := Lib.hid (HL1.out.grown hgrow2 (Ne.symm ab3)); have HOB2 := Lib.hid (HOB1.out.grown hgrow2 (Ne.symm ab4)); have f4 := HOB2.out.frozen 0; have f5 := HL2.out.frozen 0; have HLO2 := Lib.hid (apart_cut HAP1.out HLO1.out hgrow2); have HAP2 := Lib.hid (Apart.grown_cut HAP1.out HLO1.out (Nat.le_refl _) hat2); have HBE2 := Lib.hid (below_of_grown HBE1.out hgrow2 (by simp at hz1; omega) (fun g hg => (hown1.lt g hg).1)); have HK2 := Lib.hid (HK1.out.trans (Keeps8.grown hgrow2 (own_blk hown1))); have c4 : w2.cell? ⟨bo, 0, none⟩ = some ov := HOB2.out.cell 0; have c5 : w2.cell? ⟨bl, 0, none⟩ = some (.slice (some ⟨lg, lo, none⟩) p'.length lc) := HL2.out.cell 0))
      all_goals
        rw [HN0.out, HN1.out] at hown2
        have HOWN2 := Lib.hid hown2
        clear hown1 hown2 hgrow hgrow2 hat1 hat2 hz1 c1 c2 f1 f2 c3 ab1 ab2 ab3 ab4
        go_wp2_with fail
        go_roundw
        case rel => exact flush_rel hne hB1 hB2 hm1 hm3 HM.out HL2.out HOB2.out HLO2.out HOWN2.out HAP2.out HBE2.out HK2.out hch.out hpl hol
        case measure =>
          rw [lenAt_of HL.out, lenAt_of ((HL2.out.far (p := ⟨bo, 0, none⟩) hne _).set_ 0 _)]
          omega
end Go.Proofs.YtbmooemlekckbaaDoor

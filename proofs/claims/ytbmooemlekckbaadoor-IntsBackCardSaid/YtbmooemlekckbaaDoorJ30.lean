/- Joined texts: ByP. Each has its own head line. No condition beyond those that its theorems state. -/
import Derived.Laws.EntriesVeiled
import Derived.Shelf.Abstract
import Derived.Test.YtbmooemlekckbaaDoorJ29
set_option linter.unusedVariables false

/- byterle.Put. -/
namespace Go.Proofs.YtbmooemlekckbaaDoor
open Go.RowKit Go.Shelf
attribute [local go_sem] Oper.semAt_some

theorem blk_new {w : World} {t : TypeId} {cs : Array Value} {g : Nat} (h : g = w.heap.size) : Blk (w.alloc (.cells cs t)) g t cs := by subst h; exact Blk.new _ _ _
def flushFn (B : Nat) : Value := .func (.func 29) #[] #[.pointer (some ⟨B + 1, 0, none⟩), .pointer (some ⟨B, 0, none⟩)]
/-- Between two rounds. -/
def PutI (w0 : World) (res : List Int) (rest : List Int) (W : World) : Prop :=
  ∃ p o : List Int, PutB W W w0.heap.size (w0.heap.size + 1) w0.heap.size p o ∧ Below w0.heap.size w0 W ∧ o ++ enc 0 p rest = res ∧ p.length + rest.length ≤ 4096 ∧ o.length + 2 * (p.length + rest.length) ≤ 8192 ∧ Blk W (w0.heap.size + 2) 1 #[flushFn w0.heap.size]
theorem PutB.self {a W : World} {B bl bo : Nat} {p o : List Int} (h : PutB a W B bl bo p o) : PutB W W B bl bo p o := by
  obtain ⟨lv, ov, h1, h2, h3, h4, h5, _, _⟩ := h
  exact ⟨lv, ov, h1, h2, h3, h4, h5, Below.refl _ _, Keeps8.refl _ _ _⟩
theorem PutB.drewN {W : World} {B bl bo : Nat} {p o : List Int} (h : PutB W W B bl bo p o) (m : Nat) : PutB (W.drewN m) (W.drewN m) B bl bo p o := by
  obtain ⟨lv, ov, h1, h2, h3, h4, h5, _, _⟩ := h
  exact ⟨lv, ov, h1.drewN m, h2.drewN m, h3.drewN m, h4, h5, Below.refl _ _, Keeps8.refl _ _ _⟩
theorem PutB.grown {W W' : World} {B bl bo k : Nat} {p o : List Int} (h : PutB W W B bl bo p o) (hg : W.grownBy W' (some k)) (h1 : k ≠ bl) (h2 : k ≠ bo) (h3 : ∀ c, ¬ Blk W k 5 c) : PutB W' W' B bl bo p o := by
  obtain ⟨lv, ov, k1, k2, k3, k4, k5, _, _⟩ := h
  refine ⟨lv, ov, k1.grown hg (fun e => h1 (by injection e with e; exact e.symm)), k2.grown hg (fun e => h2 (by injection e with e; exact e.symm)), k3.kept hg (.inr fun e => ?_), k4.kept hg (.inr fun e => ?_), k5, Below.refl _ _, Keeps8.refl _ _ _⟩
  · obtain ⟨_, _, c, hc⟩ := k3.lt _ e; exact h3 c hc
  · obtain ⟨c, hc⟩ := own_blk k4 _ e; exact h3 c hc
theorem PutI.below {w0 V : World} {res rest : List Int} (h : PutI w0 res rest V) : Below w0.heap.size w0 V := by
  obtain ⟨p, o, h1, h2, _⟩ := h
  exact h2
theorem PutI.drewN {w0 V : World} {res rest : List Int} (h : PutI w0 res rest V) (m : Nat) : PutI w0 res rest (V.drewN m) := by
  obtain ⟨p, o, h1, h2, h3, h4, h5, h6⟩ := h
  exact ⟨p, o, h1.drewN m, below_drewN h2 m, h3, h4, h5, h6.drewN m⟩
theorem PutI.grown {w0 V V' : World} {res rest : List Int} {k : Nat} (h : PutI w0 res rest V) (hg : V.grownBy V' (some k)) (hk : w0.heap.size + 3 ≤ k) (h3 : ∀ c, ¬ Blk V k 5 c) : PutI w0 res rest V' := by
  obtain ⟨p, o, h1, h2, k3, h4, h5, h6⟩ := h
  refine ⟨p, o, h1.grown hg (by omega) (by omega) h3, below_of_grown h2 hg h2.size (fun j e => by injection e with e; omega), k3, h4, h5, h6.grown hg (fun e => by injection e with e; omega)⟩
theorem PutI.set_ {w0 V : World} {res rest : List Int} {k : Nat} {c : Array Value} (h : PutI w0 res rest V) (hk : w0.heap.size + 3 ≤ k) (hb : Blk V k 27 c) (v : Value) : PutI w0 res rest (V.setCell ⟨k, 0, none⟩ v) :=
  h.grown (setCell_grown V k 0 v) hk (fun c' hc => blk_ne hc hb (by decide) rfl)
theorem PutI.put {w0 V : World} {res rest : List Int} {k : Nat} {o : Obj} (h : PutI w0 res rest V) (hk : w0.heap.size + 3 ≤ k) (ho : V.heap[k]? = some o) (hc : o.isCells = false) (o' : Obj) : PutI w0 res rest (V.putObj k o') :=
  h.grown (grownBy_putObj' V k o') hk (fun c' hb => by unfold Blk at hb; rw [ho] at hb; injection hb with hb; subst hb; cases hc)
theorem PutI.alloc {w0 V : World} {res rest : List Int} (h : PutI w0 res rest V) (o' : Obj) : PutI w0 res rest (V.alloc o') := by
  obtain ⟨p, o, h1, h2, h3, h4, h5, h6⟩ := h
  obtain ⟨lv, ov, k1, k2, k3, k4, k5, _, _⟩ := h1
  exact ⟨p, o, ⟨lv, ov, k1.alloc _, k2.alloc _, k3.alloc _, k4.alloc _, k5, Below.refl _ _, Keeps8.refl _ _ _⟩, h2.alloc h2.size _, h3, h4, h5, h6.alloc _⟩

theorem chF_len : ∀ (f : Nat) (p : List Int), (chF f p).length ≤ 2 * p.length
  | 0, p => by simp [chF]
  | f + 1, p => by
    simp only [chF]
    split
    · simp
    · have h := chF_len f (p.drop 128)
      rw [List.length_drop] at h
      rw [List.length_cons, List.length_append, List.length_take]
      omega
theorem chunks_len (p : List Int) : (chunks p).length ≤ 2 * p.length := chF_len _ _
theorem keeps_from {B bl bo : Nat} {W W' : World} (h : Keeps8 bl bo W W') (hl : bl < B) (ho : bo < B) : KeepsFrom B W W' :=
  ⟨h.1, fun k o hk hko hc => h.2 k o hko (fun cs f e => by subst e; cases hc) (by omega) (by omega)⟩
theorem keeps_blk {bl bo g : Nat} {t : TypeId} {c : Array Value} {W W' : World} (h : Keeps8 bl bo W W') (hb : Blk W g t c) (ht : t ≠ 5) (h1 : g ≠ bl) (h2 : g ≠ bo) : Blk W' g t c :=
  h.2 g _ hb (fun cs f e => by injection e with _ e; exact ht e) h1 h2
theorem round_fin {w W W' : World} {r next : List Int} {B' : Nat} {c : Array Value} {p' o' : List Int} {a : Act} (hB' : w.heap.size + 2 ≤ B') (hk : Keeps8 (w.heap.size + 1) w.heap.size W W') (hp : PutB W' W' w.heap.size (w.heap.size + 1) w.heap.size p' o') (hb : Below w.heap.size w W')
    (he : o' ++ enc 0 p' next = r) (h1 : p'.length + next.length ≤ 4096) (h2 : o'.length + 2 * (p'.length + next.length) ≤ 8192) (hf : Blk W (w.heap.size + 2) 1 #[flushFn w.heap.size]) (hbx : Blk W (w.heap.size + 1 + 1 + 1) 27 c) :
    roundEnd B' (w.heap.size + 1 + 1 + 1) 27 c (PutI w r) next W .normal a W' :=
  ⟨keeps_from hk (by omega) (by omega), ⟨p', o', hp, hb, he, h1, h2, keeps_blk hk hf (by decide) (by omega) (by omega)⟩, keeps_blk hk hbx (by decide) (by omega) (by omega)⟩
theorem cut_far {w : World} {B n g : Nat} {e t : TypeId} {v : Value} {xs : List Value} {c : Array Value} (h : OwnCut w B e v n xs) (hb : Blk w g t c) (hne : e ≠ t) : v.ownBlock ≠ some g := by
  intro e2
  obtain ⟨cur, h2⟩ := cut_blk h _ e2
  exact blk_ne h2 hb hne rfl
theorem put_push {W X w3 : World} {B bl bo m c3 : Nat} {G3 : Option Addr} {lv ov : Value} {p o news : List Int} (hne : bl ≠ bo) (hl : Blk X bl 27 #[lv]) (hob : Blk X bo 27 #[ov]) (hlo : OwnCut X B 5 lv p.length (p.map (Value.int .u8))) (hoo : X.ownsRow B 5 1 ov o.length (o.map (Value.int .u8))) (hap : Apart ov lv)
    (hk : Keeps8 bl bo W X) (hg : X.grownBy w3 ov.ownBlock) (hm : m = (o ++ news).length) (hown : w3.ownsRow B 5 1 (.slice G3 m c3) m ((o ++ news).map (Value.int .u8))) (hat : (Value.slice G3 m c3).ownBlock = ov.ownBlock ∨ (Value.slice G3 m c3).ownBlock = some X.heap.size) :
    PutB (w3.setCell ⟨bo, 0, none⟩ (.slice G3 m c3)) (w3.setCell ⟨bo, 0, none⟩ (.slice G3 m c3)) B bl bo p (o ++ news) ∧ Keeps8 bl bo W (w3.setCell ⟨bo, 0, none⟩ (.slice G3 m c3)) := by
  have k1 := hl.grown hg (Ne.symm (own_far hoo hl (by decide)))
  have k2 := hob.grown hg (Ne.symm (own_far hoo hob (by decide)))
  have k3 := apart_cut hap hlo hg
  refine ⟨⟨lv, .slice G3 m c3, k1.far (by simpa using hne) _, k2.set_ 0 _, k3.kept (setCell_grown _ bo 0 _) (.inr (cut_far k3 k2 (by decide))), ?_, Apart.grown_cut hap hlo (Nat.le_refl _) hat, Below.refl _ _, Keeps8.refl _ _ _⟩, ?_⟩
  · rw [← hm]; exact hown.kept (setCell_grown _ bo 0 _) (.inr (own_far hown k2 (by decide)))
  · exact (hk.trans (Keeps8.grown hg (own_blk hoo))).trans (Keeps8.set_ bl bo w3 ⟨bo, 0, none⟩ _ (.inr rfl))
theorem list_push {W X w3 : World} {B bl bo m c3 : Nat} {G3 : Option Addr} {lv ov : Value} {p o news : List Int} (hne : bl ≠ bo) (hl : Blk X bl 27 #[lv]) (hob : Blk X bo 27 #[ov]) (hlo : OwnCut X B 5 lv p.length (p.map (Value.int .u8))) (hoo : X.ownsRow B 5 1 ov o.length (o.map (Value.int .u8))) (hap : Apart ov lv)
    (hk : Keeps8 bl bo W X) (hg : X.grownBy w3 lv.ownBlock) (hm : m = (p ++ news).length) (hown : OwnCut w3 B 5 (.slice G3 m c3) m ((p ++ news).map (Value.int .u8))) (hat : (Value.slice G3 m c3).ownBlock = lv.ownBlock ∨ ∀ g, (Value.slice G3 m c3).ownBlock = some g → X.heap.size ≤ g) :
    PutB (w3.setCell ⟨bl, 0, none⟩ (.slice G3 m c3)) (w3.setCell ⟨bl, 0, none⟩ (.slice G3 m c3)) B bl bo (p ++ news) o ∧ Keeps8 bl bo W (w3.setCell ⟨bl, 0, none⟩ (.slice G3 m c3)) := by
  have k1 := hl.grown hg (Ne.symm (cut_far hlo hl (by decide)))
  have k2 := hob.grown hg (Ne.symm (cut_far hlo hob (by decide)))
  have k3 := hap.symm.kept hoo hg
  refine ⟨⟨.slice G3 m c3, ov, k1.set_ 0 _, k2.far (by simpa using Ne.symm hne) _, ?_, k3.kept (setCell_grown _ bl 0 _) (.inr (own_far k3 k1 (by decide))), ?_, Below.refl _ _, Keeps8.refl _ _ _⟩, ?_⟩
  · rw [← hm]; exact hown.kept (setCell_grown _ bl 0 _) (.inr (cut_far hown k1 (by decide)))
  · intro g h1 h2
    rcases hat with h3 | h3
    · exact hap g h1 (h3 ▸ h2)
    · have := h3 g h2
      have := (hoo.lt g h1).2
      omega
  · exact (hk.trans (Keeps8.grown hg (cut_blk hlo))).trans (Keeps8.set_ bl bo w3 ⟨bl, 0, none⟩ _ (.inl rfl))

theorem take_run_q {rest : List Int} {q : Nat} {x : Int} (hq : q = runN rest) (hx : x = rest.getD 0 0) : rest.take q = List.replicate q x := by rw [hq, hx]; exact take_run rest
set_option maxHeartbeats 400000 in
theorem runs_any (w : World) (A : Option Addr) (n cap : Nat) :
    Calls Tryd.prog 30 #[.slice A n cap] w fun e w' => e = .returned (.func (.func 40) #[] #[.pointer (some ⟨w.heap.size, 0, none⟩)]) ∧ w' = w.alloc (.cells #[.slice A n cap] 27) := by
  go_enter Tryd.func30, Tryd.ntmps30
  go_wp2_with fail
  go_ret
  exact ⟨rfl, rfl⟩

set_option maxRecDepth 100000 in
set_option maxHeartbeats 2000000 in
theorem Put5_any (w : World) (A : Option Addr) (n cap : Nat) (l : List Int) (hr : Ri w .u8 A n l) (hu : U8 l) (hc : n ≤ cap) (hcm : cap ≤ 9223372036854775807) (r : List Int) (er : Int) (hp : encR l = (r, er)) :
    Calls Tryd.prog 21 #[.slice A n cap] w (BytesErr w r er) := by
  obtain rfl : n = l.length := hr.len.symm
  have HR := Lib.hid hr; have HU := Lib.hid hu
  unfold encR at hp
  clear hr hu
  by_cases hbig : 4096 < l.length
  · rw [if_pos hbig] at hp
    injection hp with e1 e2
    subst e1 e2
    go_enter Tryd.func21, Tryd.ntmps21
    go_wp2_with fail
    go_ret2
    exact ⟨none, 0, 0, rfl, Sl.nil _ _, Below.refl _ _⟩
  · rw [if_neg hbig] at hp
    injection hp with e1 e2
    subst e2
    have HE := Lib.hid e1; clear e1
    refine (callsIn_wide (n := 3)).1 ?_
    refine callsIn_of_wp_marks Tryd.func21 rfl trivial ?_ rfl
    simp only [Tryd.ntmps21, List.size_toArray, List.length_cons, List.length_nil, Nat.reduceAdd, Nat.reduceSub, Array.replicate_succ, Array.replicate_zero, List.push_toArray, List.append_toArray, List.nil_append, List.cons_append]
    gi_wp2
    refine ⟨trivial, (callsIn_wide.2 (runs_any _ _ _ _)).mono ?_⟩; rintro e w' ⟨rfl, rfl⟩
    gi_wp2
    refine range_runs (n := 3) (Bn := w.heap.size + 1 + 1 + 1) (gf := 40) (T := 27) (lb := #[.pointer (some ⟨w.heap.size + 1 + 1 + 1, 0, none⟩)]) (w0 := w) (c0 := #[.slice A l.length cap]) (by omega) rfl (enters_of Tryd.func40 (by kernel_rfl) rfl)
      l (fun rest => #[.int .u8 (rest.getD 0 0), .int .i64 (runN rest)]) (fun _ => rfl) ?seq (PutI w r) (fun _ _ h => h.below) (fun _ _ m h => h.drewN m) ?set (fun _ _ o h _ => h.alloc o) (fun _ _ k o o' h hk ho hc => h.put (by simp at hk; omega) ho hc o') (by simp; omega) ?box ?start
      (fun rest => { tmps := #[.slice A l.length cap, undef, .slice none 0 0, .int .i64 0, .pointer (some ⟨w.heap.size, 0, none⟩), .pointer (some ⟨w.heap.size + 1, 0, none⟩), .pointer (some ⟨w.heap.size + 1 + 1, 0, none⟩), .int .u8 (rest.getD 0 0), .int .i64 (runN rest), .slice A l.length cap, .int .i64 l.length, .bool (decide ((4096 : Int) < (l.length : Int))),
        .func (.func 29) #[] #[.pointer (some ⟨w.heap.size + 1, 0, none⟩), .pointer (some ⟨w.heap.size, 0, none⟩)], .slice A l.length cap, .func (.func 40) #[] #[.pointer (some ⟨w.heap.size + 1 + 1 + 1, 0, none⟩)], .int .u8 (rest.getD 0 0), .int .i64 (runN rest), undef, undef, undef, undef, undef, undef, undef, undef, undef, undef, undef, undef, undef, undef, undef, undef, undef, undef, undef, undef], defers := [] }) ?assign ?body ?done
    case seq =>
      intro lp J W1 hJb hJd hJs hY hb hj
      exact callsIn_wide.2 (runs1_any w W1 lp _ l.length (3 - 1 - 1) l J hJb hJd hJs hY ⟨A, cap, hb, HR.out, HU.out, hc, hcm, Nat.le_refl _, hj⟩)
    case set => exact fun rest V v c h hb => h.set_ (by omega) hb v
    case box => exact blk_new (by simp)
    case start =>
      refine ⟨[], [], ⟨.slice none 0 0, .slice none 0 0, ?_, ?_, OwnCut.nil _ _ _, World.ownsRow_nil _ _ _ _, ?_, Below.refl _ _, Keeps8.refl _ _ _⟩, ?_, ?_, by simp; omega, by simp; omega, ?_⟩
      · exact ((blk_new (by simp)).alloc _).alloc _
      · exact (((blk_new rfl).alloc _).alloc _).alloc _
      · intro g h; cases h
      · exact ((((Below.refl _ _).alloc (Nat.le_refl _) _).alloc (by simp) _).alloc (by simp; omega) _).alloc (by simp; omega) _
      · simpa using HE.out
      · exact (blk_new (by simp)).alloc _
    case assign =>
      intro lp rest W K hK
      gi_wp2
      exact hK
    case body =>
      intro lp rest W c hI hlen hu hb
      obtain ⟨p, o, hpb, hbe, henc, hl1, hl2, hfb⟩ := hI
      obtain ⟨q, hq⟩ : ∃ q, q = runN rest := ⟨_, rfl⟩
      obtain ⟨x, hx⟩ : ∃ x, x = rest.getD 0 0 := ⟨_, rfl⟩
      have hx0 := getD_u8 hu 0
      have hq1 := runN_pos hlen
      have hq2 := runN_le rest
      have hq3 := runN_130 rest
      rw [← hq] at hq1 hq2 hq3
      rw [← hx] at hx0
      have HPB := Lib.hid hpb; have HBE := Lib.hid hbe; have HENC := Lib.hid henc; have HFB := Lib.hid hfb; have HB := Lib.hid hb; have HQ := Lib.hid hq; have HX := Lib.hid hx
      have c1 : W.cell? ⟨w.heap.size + 1 + 1, 0, none⟩ = some (.func (.func 29) #[] #[.pointer (some ⟨w.heap.size + 1, 0, none⟩), .pointer (some ⟨w.heap.size, 0, none⟩)]) := hfb.cell 0
      show (Code.block 1 _).wpIn _ _ _ _ { tmps := #[.slice A l.length cap, undef, .slice none 0 0, .int .i64 0, .pointer (some ⟨w.heap.size, 0, none⟩), .pointer (some ⟨w.heap.size + 1, 0, none⟩), .pointer (some ⟨w.heap.size + 1 + 1, 0, none⟩), .int .u8 (rest.getD 0 0), .int .i64 (runN rest), .slice A l.length cap, .int .i64 l.length, .bool (decide ((4096 : Int) < (l.length : Int))),
        .func (.func 29) #[] #[.pointer (some ⟨w.heap.size + 1, 0, none⟩), .pointer (some ⟨w.heap.size, 0, none⟩)], .slice A l.length cap, .func (.func 40) #[] #[.pointer (some ⟨w.heap.size + 1 + 1 + 1, 0, none⟩)], .int .u8 (rest.getD 0 0), .int .i64 (runN rest), undef, undef, undef, undef, undef, undef, undef, undef, undef, undef, undef, undef, undef, undef, undef, undef, undef, undef, undef, undef], defers := [] } _
      rw [← hq, ← hx]
      clear hpb hbe henc hfb hb hq hx
      rcases Nat.lt_or_ge q 3 with h3 | h3
      · obtain ⟨lv, ov, hl, hob, hlo, hoo, hap, _, _⟩ := HPB.out
        have c2 : W.cell? ⟨w.heap.size + 1, 0, none⟩ = some lv := hl.cell 0
        have f2 := hl.frozen 0
        have hlt1 : w.heap.size + 1 < W.heap.size := hl.lt
        have HL := Lib.hid hl; have HOB := Lib.hid hob; have HLO := Lib.hid hlo; have HOO := Lib.hid hoo; have HAP := Lib.hid hap
        clear hl hob hlo hoo hap
        gi_wp2
        refine region_round (by kernel_rfl) (by kernel_rfl) ?lets ?_
        case lets => rintro ⟨a, w, h⟩; exact h
        refine wpAny_take (i := 1) (v := .int .u8 x) rfl (by kernel_rfl) (by kernel_rfl) (by kernel_rfl) (fun _ _ _ h => h) (Or.inl ⟨by rfl, by intro w; go_simp⟩) ?_
        refine wpAny_take (i := 3) (v := .int .i64 q) rfl (by kernel_rfl) (by kernel_rfl) (by kernel_rfl) (fun _ _ _ h => h) (Or.inl ⟨by rfl, by intro w; go_simp⟩) ?_
        refine wpAny_ready (rs := [0, 2]) (by kernel_rfl) (by simp) ?_
        refine AllReady.cons rfl (fun K hK => ?_) (AllReady.cons rfl (fun K hK => ?_) AllReady.nil)
        · go_simp
          refine hK _ _ ?_
          clear hK K
          refine wpAny_ready (rs := [2]) (by kernel_rfl) (by simp) ?_
          refine AllReady.cons rfl (fun K hK => ?_) AllReady.nil
          go_simp
          refine hK _ _ ?_
          clear hK K
          refine wpAny_ready (rs := [4]) (by kernel_rfl) (by simp) ?_
          refine AllReady.cons rfl (fun K hK => ?_) AllReady.nil
          go_simp
          go_at_call 31
          refine (Repeat1_any _ _ _ x (Rd.drew (Rd.one W (.int .u8 x) _)) q hq1 (by omega)).mono ?_; rintro e w4 ⟨G4, n4, c4, rfl, hr4, hb4⟩
          obtain rfl : q = n4 := by have := hr4.1.len; simpa using this
          have HR4 := Lib.hid hr4.1; have HL4 := Lib.hid (((HL.out.alloc _).drew).below_ hb4); have HOB4 := Lib.hid ((HOB.out.alloc _).drew.below_ hb4); have HLO4 := Lib.hid ((HLO.out.alloc _).drew.below hb4); have HOO4 := Lib.hid (own_below (HOO.out.alloc _).drew hb4)
          have HK4 := Lib.hid (((Keeps8.alloc (w.heap.size + 1) w.heap.size W _).trans (Keeps8.drew _ _ _)).trans (Keeps8.below hb4)); have HBE4 := Lib.hid (((Below.refl w.heap.size W).alloc HBE.out.size _).drew.trans (hb4.mono (by have := HBE.out.size; simp; omega)))
          have c5 : w4.cell? ⟨w.heap.size + 1, 0, none⟩ = some lv := HL4.out.cell 0
          clear hr4 hb4
          refine hK _ _ ?_
          clear hK K
          refine wpAny_ready (rs := [5]) (by kernel_rfl) (by simp) ?_
          refine AllReady.cons rfl (fun K hK => ?_) AllReady.nil
          refine step_cut8 rfl (.tmp 19) (.tmp 23) rfl w.heap.size lv p.length p (by kernel_rfl) HLO4.out G4 q c4 (List.replicate q x) (by kernel_rfl) HR4.out (by omega) (HBE.out.trans HBE4.out).size ?_; intro G5 g5 w5 hown5 hgr5 hat5
          have HL5 := Lib.hid (HL4.out.grown hgr5 (Ne.symm (cut_far HLO4.out HL4.out (by decide))))
          have c6 : w5.cell? ⟨w.heap.size + 1, 0, none⟩ = some lv := HL5.out.cell 0
          have f6 := HL5.out.frozen 0
          have HOWN5 := Lib.hid hown5; have HGR5 := Lib.hid hgr5; have HAT5 := Lib.hid hat5
          clear hown5 hgr5 hat5
          refine hK _ _ ?_
          clear hK K
          refine wpAny_ready (rs := [6]) (by kernel_rfl) (by simp) ?_
          refine AllReady.cons rfl (fun K hK => ?_) AllReady.nil
          go_simp
          refine hK _ _ ?_
          clear hK K
          refine wpAny_done (by kernel_rfl) ?_ _
          gi_wp2
          obtain ⟨hfin1, hfin2⟩ := list_push (news := List.replicate q x) (by omega) HL4.out HOB4.out HLO4.out HOO4.out HAP.out HK4.out HGR5.out (by rw [List.length_append, List.length_replicate]) HOWN5.out HAT5.out
          refine round_fin (by simp) hfin2 hfin1 ?_ ?_ ?_ ?_ HFB.out HB.out
          · exact (below_of_grown (HBE.out.trans HBE4.out) HGR5.out (HBE.out.trans HBE4.out).size (fun g hg => (HLO4.out.lt g hg).1)).setCell (by simp) _
          · rw [← HENC.out, enc_short rest p hlen (by rw [← HQ.out]; exact h3), ← HQ.out, take_run_q HQ.out HX.out]
          · rw [List.length_append, List.length_replicate, List.length_drop]; omega
          · rw [List.length_append, List.length_replicate, List.length_drop]; omega
        · go_simp
          refine hK _ _ ?_
          clear hK K
          refine wpAny_ready (rs := [0, 4]) (by kernel_rfl) (by simp) ?_
          refine AllReady.cons rfl (fun K hK => ?_) (AllReady.cons rfl (fun K hK => ?_) AllReady.nil)
          · go_simp
            refine hK _ _ ?_
            clear hK K
            refine wpAny_ready (rs := [4]) (by kernel_rfl) (by simp) ?_
            refine AllReady.cons rfl (fun K hK => ?_) AllReady.nil
            go_simp
            go_at_call 31
            refine (Repeat1_any _ _ _ x (Rd.drew (Rd.one W (.int .u8 x) _)) q hq1 (by omega)).mono ?_; rintro e w4 ⟨G4, n4, c4, rfl, hr4, hb4⟩
            obtain rfl : q = n4 := by have := hr4.1.len; simpa using this
            have HR4 := Lib.hid hr4.1; have HL4 := Lib.hid (((HL.out.alloc _).drew).below_ hb4); have HOB4 := Lib.hid ((HOB.out.alloc _).drew.below_ hb4); have HLO4 := Lib.hid ((HLO.out.alloc _).drew.below hb4); have HOO4 := Lib.hid (own_below (HOO.out.alloc _).drew hb4)
            have HK4 := Lib.hid (((Keeps8.alloc (w.heap.size + 1) w.heap.size W _).trans (Keeps8.drew _ _ _)).trans (Keeps8.below hb4)); have HBE4 := Lib.hid (((Below.refl w.heap.size W).alloc HBE.out.size _).drew.trans (hb4.mono (by have := HBE.out.size; simp; omega)))
            have c5 : w4.cell? ⟨w.heap.size + 1, 0, none⟩ = some lv := HL4.out.cell 0
            clear hr4 hb4
            refine hK _ _ ?_
            clear hK K
            refine wpAny_ready (rs := [5]) (by kernel_rfl) (by simp) ?_
            refine AllReady.cons rfl (fun K hK => ?_) AllReady.nil
            refine step_cut8 rfl (.tmp 19) (.tmp 23) rfl w.heap.size lv p.length p (by kernel_rfl) HLO4.out G4 q c4 (List.replicate q x) (by kernel_rfl) HR4.out (by omega) (HBE.out.trans HBE4.out).size ?_; intro G5 g5 w5 hown5 hgr5 hat5
            have HL5 := Lib.hid (HL4.out.grown hgr5 (Ne.symm (cut_far HLO4.out HL4.out (by decide))))
            have c6 : w5.cell? ⟨w.heap.size + 1, 0, none⟩ = some lv := HL5.out.cell 0
            have f6 := HL5.out.frozen 0
            have HOWN5 := Lib.hid hown5; have HGR5 := Lib.hid hgr5; have HAT5 := Lib.hid hat5
            clear hown5 hgr5 hat5
            refine hK _ _ ?_
            clear hK K
            refine wpAny_ready (rs := [6]) (by kernel_rfl) (by simp) ?_
            refine AllReady.cons rfl (fun K hK => ?_) AllReady.nil
            go_simp
            refine hK _ _ ?_
            clear hK K
            refine wpAny_done (by kernel_rfl) ?_ _
            gi_wp2
            obtain ⟨hfin1, hfin2⟩ := list_push (news := List.replicate q x) (by omega) HL4.out HOB4.out HLO4.out HOO4.out HAP.out HK4.out HGR5.out (by rw [List.length_append, List.length_replicate]) HOWN5.out HAT5.out
            refine round_fin (by simp) hfin2 hfin1 ?_ ?_ ?_ ?_ HFB.out HB.out
            · exact (below_of_grown (HBE.out.trans HBE4.out) HGR5.out (HBE.out.trans HBE4.out).size (fun g hg => (HLO4.out.lt g hg).1)).setCell (by simp) _
            · rw [← HENC.out, enc_short rest p hlen (by rw [← HQ.out]; exact h3), ← HQ.out, take_run_q HQ.out HX.out]
            · rw [List.length_append, List.length_replicate, List.length_drop]; omega
            · rw [List.length_append, List.length_replicate, List.length_drop]; omega
          · go_simp
            go_at_call 31
            refine (Repeat1_any _ _ _ x (Rd.drew (Rd.one W (.int .u8 x) _)) q hq1 (by omega)).mono ?_; rintro e w4 ⟨G4, n4, c4, rfl, hr4, hb4⟩
            obtain rfl : q = n4 := by have := hr4.1.len; simpa using this
            have HR4 := Lib.hid hr4.1; have HL4 := Lib.hid (((HL.out.alloc _).drew).below_ hb4); have HOB4 := Lib.hid ((HOB.out.alloc _).drew.below_ hb4); have HLO4 := Lib.hid ((HLO.out.alloc _).drew.below hb4); have HOO4 := Lib.hid (own_below (HOO.out.alloc _).drew hb4)
            have HK4 := Lib.hid (((Keeps8.alloc (w.heap.size + 1) w.heap.size W _).trans (Keeps8.drew _ _ _)).trans (Keeps8.below hb4)); have HBE4 := Lib.hid (((Below.refl w.heap.size W).alloc HBE.out.size _).drew.trans (hb4.mono (by have := HBE.out.size; simp; omega)))
            have c5 : w4.cell? ⟨w.heap.size + 1, 0, none⟩ = some lv := HL4.out.cell 0
            clear hr4 hb4
            refine hK _ _ ?_
            clear hK K
            refine wpAny_ready (rs := [0]) (by kernel_rfl) (by simp) ?_
            refine AllReady.cons rfl (fun K hK => ?_) AllReady.nil
            go_simp
            refine hK _ _ ?_
            clear hK K
            refine wpAny_ready (rs := [5]) (by kernel_rfl) (by simp) ?_
            refine AllReady.cons rfl (fun K hK => ?_) AllReady.nil
            refine step_cut8 rfl (.tmp 19) (.tmp 23) rfl w.heap.size lv p.length p (by kernel_rfl) HLO4.out G4 q c4 (List.replicate q x) (by kernel_rfl) HR4.out (by omega) (HBE.out.trans HBE4.out).size ?_; intro G5 g5 w5 hown5 hgr5 hat5
            have HL5 := Lib.hid (HL4.out.grown hgr5 (Ne.symm (cut_far HLO4.out HL4.out (by decide))))
            have c6 : w5.cell? ⟨w.heap.size + 1, 0, none⟩ = some lv := HL5.out.cell 0
            have f6 := HL5.out.frozen 0
            have HOWN5 := Lib.hid hown5; have HGR5 := Lib.hid hgr5; have HAT5 := Lib.hid hat5
            clear hown5 hgr5 hat5
            refine hK _ _ ?_
            clear hK K
            refine wpAny_ready (rs := [6]) (by kernel_rfl) (by simp) ?_
            refine AllReady.cons rfl (fun K hK => ?_) AllReady.nil
            go_simp
            refine hK _ _ ?_
            clear hK K
            refine wpAny_done (by kernel_rfl) ?_ _
            gi_wp2
            obtain ⟨hfin1, hfin2⟩ := list_push (news := List.replicate q x) (by omega) HL4.out HOB4.out HLO4.out HOO4.out HAP.out HK4.out HGR5.out (by rw [List.length_append, List.length_replicate]) HOWN5.out HAT5.out
            refine round_fin (by simp) hfin2 hfin1 ?_ ?_ ?_ ?_ HFB.out HB.out
            · exact (below_of_grown (HBE.out.trans HBE4.out) HGR5.out (HBE.out.trans HBE4.out).size (fun g hg => (HLO4.out.lt g hg).1)).setCell (by simp) _
            · rw [← HENC.out, enc_short rest p hlen (by rw [← HQ.out]; exact h3), ← HQ.out, take_run_q HQ.out HX.out]
            · rw [List.length_append, List.length_replicate, List.length_drop]; omega
            · rw [List.length_append, List.length_replicate, List.length_drop]; omega
      · gi_wp2
        refine ⟨trivial, (CallsIn.inRound lp (callsIn_wide.2 (flush_any W w.heap.size (w.heap.size + 1) w.heap.size p o HPB.out ⟨by omega, by omega⟩ (by omega) (by omega) (by omega) _ rfl))).mono ?_⟩; rintro e W2 ⟨rfl, lv, ov, hl2', ho2, hlo2, hoo2, hap2, hbe2, hk2⟩
        have c2 : W2.cell? ⟨w.heap.size, 0, none⟩ = some ov := ho2.cell 0
        have f2 := ho2.frozen 0
        have HL2 := Lib.hid hl2'; have HO2 := Lib.hid ho2; have HLO2 := Lib.hid hlo2; have HOO2 := Lib.hid hoo2; have HAP2 := Lib.hid hap2; have HBE2 := Lib.hid hbe2; have HK2 := Lib.hid hk2
        have hol2 : (o ++ chunks p).length + 2 * rest.length ≤ 8192 := by have := chunks_len p; rw [List.length_append]; omega
        have hsz : w.heap.size ≤ W2.heap.size := by have := ho2.lt; omega
        clear hl2' ho2 hlo2 hoo2 hap2 hbe2 hk2
        gi_wp2_with (gi_at_builtin; refine wpListIn_u8 _ rfl (.tmp 27) (.tmp 32) rfl w.heap.size _ _ (o ++ chunks p) rfl (HOO2.out.alloc _) _ 2 2 [_, _] rfl (Ri_two _ _ _ _ _) (by omega) (by simp; omega) ?_; intro G3 c3 w3 hown hgr hat; have HOWN := Lib.hid hown; have HGR := Lib.hid hgr; have HAT := Lib.hid hat; have HO3 := Lib.hid ((HO2.out.alloc _).grown hgr (Ne.symm (own_far HOO2.out HO2.out (by decide)))); have c4 : w3.cell? ⟨w.heap.size, 0, none⟩ = some ov := HO3.out.cell 0; have f4 := HO3.out.frozen 0; clear hown hgr hat)
        obtain ⟨hfin1, hfin2⟩ := put_push (news := [(q : Int) - 3, x]) (by omega) (HL2.out.alloc _) (HO2.out.alloc _) (HLO2.out.alloc _) (HOO2.out.alloc _) HAP2.out (HK2.out.trans (Keeps8.alloc _ _ _ _)) HGR.out (by rw [List.length_append (bs := [(q : Int) - 3, x])]; rfl) HOWN.out HAT.out
        have hlen2 : (o ++ chunks p).length + 2 = o.length + (chunks p).length + 2 := by rw [List.length_append]
        rw [hlen2] at hfin1 hfin2
        refine round_fin (by simp) hfin2 hfin1 ?_ ?_ ?_ ?_ HFB.out HB.out
        · exact ((below_of_grown ((HBE.out.trans HBE2.out).alloc hsz _) HGR.out (by simp; omega) (fun g hg => (HOO2.out.lt g hg).1)).setCell (Nat.le_refl _) _)
        · rw [← HENC.out, enc_long rest p (by rw [← HQ.out]; exact h3), ← HQ.out, ← HX.out]; simp
        · rw [List.length_drop]; simp only [List.length_nil]; omega
        · rw [List.length_append (bs := [(q : Int) - 3, x]), List.length_drop]; simp only [List.length_nil, List.length_cons]; omega
    case done =>
      intro D W hD hI hK
      obtain ⟨p, o, hpb, hbe, henc, hl1, hl2, hfb⟩ := hI
      rw [enc_nil] at henc
      have HPB := Lib.hid hpb; have HBE := Lib.hid hbe; have HK := Lib.hid hK; have HENC := Lib.hid henc
      have c1 : W.cell? ⟨w.heap.size + 1 + 1, 0, none⟩ = some (.func (.func 29) #[] #[.pointer (some ⟨w.heap.size + 1, 0, none⟩), .pointer (some ⟨w.heap.size, 0, none⟩)]) := hfb.cell 0
      have hD2 : w.heap.size + 4 ≤ D := by simp at hD; omega
      clear hpb hbe hfb hK henc hD
      gi_wp2
      refine ⟨trivial, (callsIn_wide.2 (flush_any W w.heap.size (w.heap.size + 1) w.heap.size p o HPB.out ⟨by omega, by omega⟩ (by omega) (by omega) (by omega) r HENC.out)).mono ?_⟩; rintro e W2 ⟨rfl, lv, ov, hl2', ho2, hlo2, hoo2, hap2, hbe2, hk2⟩
      have c2 : W2.cell? ⟨w.heap.size, 0, none⟩ = some ov := ho2.cell 0
      have HO2 := Lib.hid ho2; have HOO2 := Lib.hid hoo2; have HBE2 := Lib.hid hbe2
      have HK2 := Lib.hid (hk2.2 D _ HK.out (fun cs f e => by cases e) (by omega) (by omega))
      clear hl2' ho2 hlo2 hoo2 hap2 hbe2 hk2
      gi_wp2
      obtain ⟨G, gc, rfl⟩ := own_form HOO2.out
      have hg1 := own_far HOO2.out HO2.out (by decide)
      have hgd : (Value.slice G r.length gc).ownBlock ≠ some D := by
        intro e
        obtain ⟨cur, h⟩ := own_blk HOO2.out _ e
        have h2 := HK2.out
        unfold Blk at h
        rw [h] at h2
        cases h2
      refine ⟨by simp, .inl ⟨_, _, rfl, run_takeDeferred HK2.out, ?_⟩⟩
      refine ⟨_, results_tmp2 rfl _ _ _, G, _, gc, rfl, Sl.of_own (HOO2.out.kept (grownBy_putObj' W2 D _) (.inr hgd)), below_of_grown (HBE.out.trans HBE2.out) (grownBy_putObj' W2 D _) (HBE.out.trans HBE2.out).size (fun j e => by injection e with e; omega)⟩
end Go.Proofs.YtbmooemlekckbaaDoor

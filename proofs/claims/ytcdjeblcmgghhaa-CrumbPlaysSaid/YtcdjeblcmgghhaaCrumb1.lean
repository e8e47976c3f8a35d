/- What crumb.Crumbs.Add does. Conditions: the receiver lies in memory as Crep says; the numbers are Go's ints. -/
import Derived.Test.YtcdjeblcmgghhaaCrumb0
import Derived.Lib.Hide
import Derived.Deep.RegionWith
namespace Go.Proofs.Ytcdjeblcmgghhaa.Crumb
open Go.RowKit Go.Sp

/-- the answer and what is named behind the call -/
def addM (n : Int) (M : List (Int × List Int)) (t a : Int) : Int × List (Int × List Int) :=
  if t < 1 ∨ 65535 < t then (1, M) else if a < 0 ∨ n ≤ a then (2, M) else if (lget t M).contains a then (8, M) else (0, mput t (insI a (lget t M)) M)

section
variable {w w' : World} {R : Nat → Prop} {cb mb : Nat} {n : Int} {m : List (Int × (Value × List Int))}

theorem addM_arg {M : List (Int × List Int)} {t a : Int} (h : t < 1 ∨ 65535 < t) : addM n M t a = (1, M) := by unfold addM; rw [if_pos h]
theorem addM_range {M : List (Int × List Int)} {t a : Int} (h : ¬ (t < 1 ∨ 65535 < t)) (h2 : a < 0 ∨ n ≤ a) : addM n M t a = (2, M) := by unfold addM; rw [if_neg h, if_pos h2]
theorem addM_once {M : List (Int × List Int)} {t a : Int} (h : ¬ (t < 1 ∨ 65535 < t)) (h2 : ¬ (a < 0 ∨ n ≤ a)) (h3 : (lget t M).contains a = true) : addM n M t a = (8, M) := by unfold addM; rw [if_neg h, if_neg h2, if_pos h3]
theorem addM_ok {M : List (Int × List Int)} {t a : Int} (h : ¬ (t < 1 ∨ 65535 < t)) (h2 : ¬ (a < 0 ∨ n ≤ a)) (h3 : (lget t M).contains a = false) : addM n M t a = (0, mput t (insI a (lget t M)) M) := by unfold addM; rw [if_neg h, if_neg h2, if_neg (by rw [h3]; decide)]

def AddOut (w : World) (R : Nat → Prop) (cb mb : Nat) (n : Int) (m : List (Int × (Value × List Int))) (t a : Int) (e : Ending) (w' : World) : Prop :=
  e = .returned (.int .i64 (addM n (mm m) t a).1) ∧ ∃ R' m', Crep w' R' cb mb n m' ∧ mm m' = (addM n (mm m) t a).2 ∧ (∀ b, R' b → R b ∨ w.heap.size ≤ b) ∧ Only R w w'

theorem AddOut.same {t a c : Int} (h : Crep w R cb mb n m) (e : addM n (mm m) t a = (c, mm m)) (hh : w'.heap = w.heap) (ho : Only R w w') : AddOut w R cb mb n m t a (.returned (.int .i64 c)) w' := by
  unfold AddOut
  rw [e]
  exact ⟨rfl, R, m, h.heap hh, rfl, fun b hb => .inl hb, ho⟩

theorem AddOut.put {t a : Int} (h : Crep w R cb mb n m) (e : addM n (mm m) t a = (0, mput t (insI a (lget t (mm m))) (mm m))) (w1 w2 : World) (v v' : Value) (hle : w.heap.size ≤ w1.heap.size)
    (h1 : Only (fun j => v.ownBlock = some j) w w1) (hv : ∀ g, v.ownBlock = some g → R g) (hvc : v.ownBlock ≠ some cb) (hvm : v.ownBlock ≠ some mb)
    (hd : ∀ k' v1 l', k' ≠ t → mget k' m = some (v1, l') → ∀ g, v.ownBlock = some g → v1.ownBlock ≠ some g)
    (hs : SL w1.heap 3 1 v' (insI a (lget t (mm m))).length ((insI a (lget t (mm m))).map Sp.zI)) (hv' : v'.ownBlock = v.ownBlock ∨ ∀ g, v'.ownBlock = some g → w.heap.size ≤ g)
    (hw2 : IMap w2.heap mb Prod.fst (mput t (v', insI a (lget t (mm m))) m)) (h2 : Only (· = mb) w1 w2)
    (hrs : (insI a (lget t (mm m))).Pairwise (· < ·)) (hbd : ∀ b ∈ insI a (lget t (mm m)), 0 ≤ b ∧ b < n) : AddOut w R cb mb n m t a (.returned (.int .i64 0)) w2 := by
  unfold AddOut
  rw [e]
  have hmw : mb < w.heap.size := h.mp.lt
  have hsm : v'.ownBlock ≠ some mb := fun e1 => by
    rcases hv' with h3 | h3
    · exact hvm (by rw [← h3, e1])
    · have := h3 _ e1; omega
  have own' : ∀ k v1 l, mget k (mput t (v', insI a (lget t (mm m))) m) = some (v1, l) → (k = t ∧ v1 = v' ∧ l = insI a (lget t (mm m))) ∨ (k ≠ t ∧ mget k m = some (v1, l)) := by
    intro k v1 l hk
    rw [mget_mput] at hk
    split at hk
    · rename_i hkt
      cases hk
      exact .inl ⟨hkt, rfl, rfl⟩
    · rename_i hkt
      exact .inr ⟨hkt, hk⟩
  have v'R : ∀ g, v'.ownBlock = some g → g < w1.heap.size := fun g hg => hs.lt g hg
  refine ⟨rfl, fun b => R b ∨ v'.ownBlock = some b, mput t (v', insI a (lget t (mm m))) m, ⟨?_, hw2, ?_, ?_, ?_, ?_, .inl h.rc, .inl h.rm, ?_, h.n4⟩, mm_put _ _ _ _, ?_, ?_⟩
  · exact h2.heap (h1.heap h.blk hvc) h.ne
  · intro k v1 l hk
    rcases own' k v1 l hk with ⟨rfl, rfl, rfl⟩ | ⟨hkt, hm⟩
    · exact hs.only h2 (fun g hg e1 => hsm (by rw [hg, e1]))
    · exact ((h.sl k v1 l hm).only h1 (fun g hg e1 => hd k v1 l hkt hm g e1 hg)).only h2 (fun g hg e1 => h.nm hm (by rw [hg, e1]))
  · intro k v1 l hk g hg
    rcases own' k v1 l hk with ⟨rfl, rfl, rfl⟩ | ⟨hkt, hm⟩
    · exact .inr hg
    · exact .inl (h.own k v1 l hm g hg)
  · intro k v1 l k2 v2 l2 hne hk hk2 g hg hg2
    rcases own' k v1 l hk with ⟨rfl, rfl, rfl⟩ | ⟨hkt, hm⟩
    · rcases own' k2 v2 l2 hk2 with ⟨rfl, rfl, rfl⟩ | ⟨hkt2, hm2⟩
      · exact hne rfl
      · rcases hv' with h3 | h3
        · exact hd k2 v2 l2 hkt2 hm2 g (by rw [← h3, hg]) hg2
        · have := h3 g hg; have := h.rlt g (h.own _ _ _ hm2 g hg2); omega
    · rcases own' k2 v2 l2 hk2 with ⟨rfl, rfl, rfl⟩ | ⟨hkt2, hm2⟩
      · rcases hv' with h3 | h3
        · exact hd k v1 l hkt hm g (by rw [← h3, hg2]) hg
        · have := h3 g hg2; have := h.rlt g (h.own _ _ _ hm g hg); omega
      · exact h.dis k v1 l k2 v2 l2 hne hm hm2 g hg hg2
  · intro k v1 l hk
    rcases own' k v1 l hk with ⟨rfl, rfl, rfl⟩ | ⟨hkt, hm⟩
    · exact ⟨hrs, hbd⟩
    · exact h.srt k v1 l hm
  · intro b hb
    have := h2.size
    rcases hb with hb | hb
    · have := h.rlt b hb; omega
    · have := v'R b hb; omega
  · intro b hb
    rcases hb with hb | hb
    · exact .inl hb
    · rcases hv' with h3 | h3
      · exact .inl (hv b (by rw [← h3, hb]))
      · exact .inr (h3 b hb)
  · exact (h1.mono (G := R) (fun i _ hi => hv i hi)).trans (h2.mono fun i _ e1 => by rw [e1]; exact h.rm)

set_option maxRecDepth 100000 in
set_option maxHeartbeats 1000000 in
theorem add_any (h : Crep w R cb mb n m) {t a : Int} (ht : (Lit.int .i64 t).wf = true) :
    Calls Try.prog 47 #[.pointer (some ⟨cb, 0, none⟩), .int .i64 t, .int .i64 a] w fun e w' => AddOut w R cb mb n m t a e w' := by
  have c0 := h.c0
  have c1 := h.c1
  by_cases b1 : t < 1
  · have he := addM_arg (n := n) (M := mm m) (t := t) (a := a) (.inl b1)
    have H := AddOut.same (w' := w) h he rfl (Only.refl _ _)
    clear h c0 c1 he
    go_enter Try.func47, Try.ntmps47
    go_wp2
    go_ret
    exact H
  by_cases b2 : 65535 < t
  · have he := addM_arg (n := n) (M := mm m) (t := t) (a := a) (.inr b2)
    have H := AddOut.same (w' := w) h he rfl (Only.refl _ _)
    clear h c0 c1 he
    go_enter Try.func47, Try.ntmps47
    go_wp2
    go_ret
    exact H
  have hin : ¬ (t < 1 ∨ 65535 < t) := by omega
  by_cases b3 : a < 0
  · have he := addM_range (n := n) (M := mm m) (t := t) (a := a) hin (.inl b3)
    have H := AddOut.same (w' := w) h he rfl (Only.refl _ _)
    clear h c0 c1 he hin
    go_enter Try.func47, Try.ntmps47
    go_wp2
    go_ret
    exact H
  by_cases b4 : n ≤ a
  · have he := addM_range (n := n) (M := mm m) (t := t) (a := a) hin (.inr b4)
    have H := AddOut.same (w' := w) h he rfl (Only.refl _ _)
    clear h c1 he hin
    go_enter Try.func47, Try.ntmps47
    go_wp2
    go_ret
    exact H
  have hin2 : ¬ (a < 0 ∨ n ≤ a) := by omega
  obtain ⟨v, l, hl, hsl, hR, hs, hbd, hlg, h4, hvc, hvm, hd⟩ := h.look t
  subst hlg
  have hl0 := hl w rfl
  generalize hll : lget t (mm m) = l at *
  have hs' : l.Pairwise (· ≤ ·) := hs.imp fun h => Int.le_of_lt h
  cases hc : l.contains a with
  | true =>
    have he := addM_once (n := n) (M := mm m) (t := t) (a := a) hin hin2 (by rw [hll]; exact hc)
    have H := fun q => AddOut.same (w' := w.drewN q) h he rfl ((Only.refl _ _).drewN q)
    clear h he hin hin2 hd hl hll
    go_enter Try.func47, Try.ntmps47
    go_wp2_with (go_at_call 68; refine (search_any hsl hs' (by omega) a).mono ?_; rintro e w' ⟨rfl, q, rfl⟩; rw [hc])
    go_ret
    exact H _
  | false =>
    have he := addM_ok (n := n) (M := mm m) (t := t) (a := a) hin hin2 (by rw [hll]; exact hc)
    have hna : a ∉ l := fun e => by rw [List.contains_iff_mem.2 e] at hc; cases hc
    have hk : l.countP (· < a) ≤ l.length := List.countP_le_length
    have hcut := insI_cut a hs hna
    have hrs := insI_sorted a hs hna
    have hbd2 : ∀ b ∈ insI a l, 0 ≤ b ∧ b < n := fun b hb => by
      rcases mem_insI.1 hb with rfl | hb
      · omega
      · exact hbd b hb
    have PUT := AddOut.put h he
    rw [hll] at PUT
    generalize hcn : l.countP (· < a) = c at hk hcut
    have HC := Lib.hid hcut
    have HN := Lib.hid hll
    have HE := Lib.hid he
    have HP := Lib.hid PUT
    have HS := Lib.hid (And.intro hrs hbd2)
    clear hcut hll he PUT hs hna hin hin2 hrs hbd2 hbd
    have o0 : ∀ q, Only R w (w.drewN q) := fun q => (Only.refl _ _).drewN q
    go_enter Try.func47, Try.ntmps47
    go_wp2_with (go_at_call 68; refine (search_any hsl hs' (by omega) a).mono ?_; rintro e w' ⟨rfl, q, rfl⟩; rw [hc, hcn])
    clear hcn hc
    have o1 : Only (fun j => v.ownBlock = some j) w (w.drewN q) := (Only.refl _ _).drewN q
    have h1 : Crep (w.drewN q) R cb mb n m := h.heap rfl
    have hsl1 : SL (w.drewN q).heap 3 1 v l.length (l.map Sp.zI) := hsl
    have hsz : (w.drewN q).heap.size = w.heap.size := rfl
    clear c0 c1 hl0 hsl hl b1 b2 b3 b4 h o0 hs'
    generalize w.drewN q = w1 at o1 h1 hsl1 hsz ⊢
    have c1 := h1.c1
    have hcb : cb < w1.heap.size := h1.rlt cb h1.rc
    have hmw : mb < w1.heap.size := h1.rlt mb h1.rm
    have CI := insert_any (w := (w1.alloc (.cells #[.int .i64 a] 3)).drew) (v := v) (xs := l) (k := c) (vb := w1.heap.size) (vc := 1) (x := a) (tv := 3) (hsl1.alloc _) hk (by omega) (heap_new w1 _ rfl) (fun e1 => by have := hsl1.lt _ e1; omega)
    rw [HC.out] at CI
    have hmA : IMap ((w1.alloc (.cells #[.int .i64 a] 3)).drew).heap mb Prod.fst m := h1.mp.alloc _
    have hbA : ((w1.alloc (.cells #[.int .i64 a] 3)).drew).heap[cb]? = some (.cells #[.int .i64 n, .map (some mb)] 153 (0, 0)) := (Below.heap_alloc _ _ _ hcb).trans h1.blk
    have oA : Only (fun j => v.ownBlock = some j) w ((w1.alloc (.cells #[.int .i64 a] 3)).drew) := (o1.alloc _).drew
    have HZ := Lib.hid hsz
    clear hsz
    go_region_with (go_at_call 69; refine CI.mono ?_; rintro e w2 ⟨v', rfl, hs2, ho2, hv2⟩; obtain ⟨w3, hr3, hm3, ho3⟩ := (hmA.only ho2 (fun e1 => hvm e1)).update (P := Try.prog) Try.underlying151 Try.underlying3 ht (v', insI a l); have c2 : w2.cell? ⟨cb, 1, none⟩ = some (.map (some mb)) := by simp [World.cell?, ho2.heap hbA (fun e1 => hvc e1)])
    all_goals (
      go_wp2
      go_ret
      refine HP.out w2 w3 v v' (by have := oA.size; have := ho2.size; omega) (oA.trans ho2) hR hvc hvm hd (by rw [insI_len]; exact hs2) (hv2.imp id (fun e1 g hg => ?_)) hm3 ho3 HS.out.1 HS.out.2
      rw [hg] at e1; cases e1
      have := oA.size
      omega)
end
end Go.Proofs.Ytcdjeblcmgghhaa.Crumb

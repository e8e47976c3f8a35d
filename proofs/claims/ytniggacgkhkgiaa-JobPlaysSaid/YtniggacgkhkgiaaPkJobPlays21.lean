/- Both jobs side by side: the program's and the reference's, what they hear and what they say. Conditions: they lie in memory. -/
import Derived.Test.YtniggacgkhkgiaaPkJobPlays19
import Derived.Test.YtniggacgkhkgiaaPkJobPlays20
import Derived.Test.YtniggacgkhkgiaaPkJobPlays16
import Derived.Test.YtniggacgkhkgiaaPkJobPlays17
namespace Go.Sp
open Go.RowKit
theorem stripStrp (ps qs : List Pt) (h : ps.map strip = qs.map strip) : ps.map strp = qs.map strp := h
theorem mem_visPts {r : Rs} {p : Pt} {n : Nat} (hn : n ≤ r.pt.length) (h : p ∈ visPts r n) : p ∈ r.pt := by
  unfold visPts at h
  obtain ⟨i, hi, hp⟩ := List.mem_flatMap.1 h
  have hil : i < r.pt.length := Nat.lt_of_lt_of_le (List.mem_range.1 hi) hn
  revert hp
  cases decide (0 < r.st.getD i 0) with
  | false => intro hp; simp at hp
  | true =>
    intro hp
    simp only [cond_true, List.mem_singleton] at hp
    rw [hp, List.getD_eq_getElem?_getD, List.getElem?_eq_getElem hil]
    exact List.getElem_mem hil
theorem mem_outsT {J : Jb} {x : Int × Mg} (h : x ∈ outsT J) : x.2 = .pin J.tr J.id ∨ x.2 = .coll J.tr J.id ∨ x.2 = .unp J.tr J.id := by
  unfold outsT at h
  obtain ⟨p, _, hp⟩ := List.mem_flatMap.1 h
  unfold outV at hp
  revert hp
  cases decide (J.ph = 1) && !p.2.pin with
  | true => intro hp; simp only [cond_true, List.mem_singleton] at hp; rw [hp]; exact .inl rfl
  | false =>
    cases decide (J.ph = 2) with
    | true => intro hp; simp only [cond_true, cond_false, List.mem_singleton] at hp; rw [hp]; exact .inr (.inl rfl)
    | false =>
      cases decide (J.ph = 3) && !p.2.free with
      | true => intro hp; simp only [cond_true, cond_false, List.mem_singleton] at hp; rw [hp]; exact .inr (.inr rfl)
      | false => intro hp; simp at hp
end Go.Sp
namespace Go.Proofs.Ytniggacgkhkgiaa.Job
open Go.RowKit Go.Sp Msg Go.Sort

/-- both begin alike -/
theorem rel_new {id a t c : Int} {A : Nat} (hA : 1 ≤ A) (h0 : 0 ≤ a) (h1 : a < A) : Rel (newJ id A a t c) (newR id A a t c) := by
  obtain ⟨n, rfl⟩ : ∃ n : Nat, a = n := ⟨a.toNat, by omega⟩
  have hn : n < A := by omega
  have hl : ((List.replicate A (0 : Int)).set n 1).length = A := by simp
  have h00 : RelV A [] (List.replicate A 0) := ⟨by simp, fun i hi => by rw [List.getElem?_replicate, if_pos hi]; rfl⟩
  have h2 := h00.put hn zVis
  have hg : ∀ i : Nat, mget (i : Int) [((n : Int), zVis)] = if i = n then some zVis else none := fun i => by
    simp only [mget]
    by_cases e : i = n
    · subst e; simp
    · rw [if_neg (by omega), if_neg e]
  refine ⟨rfl, rfl, rfl, rfl, rfl, rfl, ?_, ?_, by simp [newJ, KS], fun p hp => ?_, ?_, ?_, fun i hi => ?_, fun i v hv hp => ?_⟩
  · show (A : Int) = ((((List.replicate A (0 : Int)).set n 1).length : Nat) : Int)
    rw [hl]
  · show RelV ((List.replicate A (0 : Int)).set n 1).length [((n : Int), zVis)] ((List.replicate A (0 : Int)).set n 1)
    rw [hl]; exact h2
  · simp only [newJ, List.mem_singleton] at hp
    subst hp
    show 0 ≤ (n : Int) ∧ (n : Int) < ((((List.replicate A (0 : Int)).set n 1).length : Nat) : Int)
    rw [hl]; omega
  · show (List.replicate A false).length = ((List.replicate A (0 : Int)).set n 1).length
    rw [hl]; simp
  · show (List.replicate A zPt).length = ((List.replicate A (0 : Int)).set n 1).length
    rw [hl]; simp
  · have hi' : i < A := by rw [← hl]; exact hi
    show (List.replicate A false)[i]? = some (frr (mget (i : Int) [((n : Int), zVis)]))
    rw [hg, List.getElem?_replicate, if_pos hi']
    by_cases e : i = n
    · rw [if_pos e]; rfl
    · rw [if_neg e]; rfl
  · have hv' : mget (i : Int) [((n : Int), zVis)] = some v := hv
    rw [hg] at hv'
    by_cases e : i = n
    · rw [if_pos e] at hv'; cases hv'; cases hp
    · rw [if_neg e] at hv'; cases hv'
theorem inv_new (id A a t c : Int) : Inv (newJ id A a t c) := ⟨fun h => (by cases h), fun h => (by simp [newJ] at h)⟩

theorem like_form {w : World} {pv' : Value} {m : Mg} (h : LikeIn w pv' m) : ∃ pv'', likeM pv' m = likeM pv'' m ∧ LikeIn w pv'' m ∧ (∃ x y z, pv'' = .slice x y z) ∧ ∀ g, pv''.ownBlock = some g → pv'.ownBlock = some g := by
  cases m with
  | mani t j c pv ps =>
    have h' : SL w.heap 33 6 pv' ps.length (ps.flatMap ePt) ∧ ∀ p ∈ ps, RS w 1 eInt p.cv p.cl := h
    obtain ⟨a, c, e⟩ := h'.1.form
    exact ⟨pv', rfl, h, ⟨_, _, _, e⟩, fun _ hg => hg⟩
  | _ => exact ⟨.slice none 0 0, rfl, h, ⟨_, _, _, rfl⟩, fun g hg => by simp [Value.ownBlock] at hg⟩

/-- what is told of the message of a call: its slices lie where they lay, or are new and among those that stay -/
theorem msgJ_facts {w wr w5 : World} {o : OpJ} {m : Mg} {K : Nat → Prop} (h : MsgJ o m) (hcs : RS w 1 eInt o.cv o.cs) (him : InMem w5 m) (hnew : ManiNew wr m) (hK : ∀ b, wr.heap.size ≤ b → b < w5.heap.size → K b) :
    Base13 w m ∧ ∀ w6, Only (fun b => w.heap.size ≤ b ∧ ¬ K b) w5 w6 → InMem w6 m := by
  have hcv : 0 < o.cs.length → ∀ g, o.cv.ownBlock = some g → ¬ (w.heap.size ≤ g ∧ ¬ K g) := fun hn g hg e => by
    obtain ⟨_, a, c, e1, h2⟩ := hcs
    obtain ⟨b, off, rfl, hb, _⟩ := h2 hn
    rw [e1] at hg
    simp [Value.ownBlock] at hg
    omega
  rcases h with ⟨hk, rfl⟩ | ⟨hk, pv, rfl⟩
  · unfold makeN at him ⊢
    split <;> try exact ⟨trivial, fun _ _ => trivial⟩
    split <;> try exact ⟨trivial, fun _ _ => trivial⟩
    split
    · rename_i n1 n2 n3
      rw [if_neg n1, if_neg n2, if_pos n3] at him
      have him5 : RS w5 1 eInt o.cv o.cs := him
      exact ⟨hcs, fun w6 o6 => RS.only' him5 o6 hcv⟩
    split <;> try exact ⟨trivial, fun _ _ => trivial⟩
    split <;> try exact ⟨trivial, fun _ _ => trivial⟩
    split
    · exact ⟨RS.nil _ _ _, fun w6 o6 => RS.nil _ _ _⟩
    split <;> try exact ⟨trivial, fun _ _ => trivial⟩
    split <;> try exact ⟨trivial, fun _ _ => trivial⟩
    split <;> exact ⟨trivial, fun _ _ => trivial⟩
  · have hp : Pts w5 pv [⟨o.a, o.t, o.j, 1, o.cv, o.cs, o.l⟩, ⟨wrap64 (o.a + 1), o.t, o.j, 1, o.cv, o.cs, o.l⟩] := him
    refine ⟨trivial, fun w6 o6 => ⟨RS.only' hp.1 o6 (fun hn g hg e => ?_), fun p hpm => RS.only' (hp.2 p hpm) o6 ?_⟩⟩
    · obtain ⟨_, a, c, e1, h2⟩ := hp.1
      obtain ⟨b, off, rfl, hb, _⟩ := h2 hn
      have hg' := hnew _ _ _ _ _ rfl g hg
      rw [e1] at hg
      simp [Value.ownBlock] at hg
      subst hg
      exact e.2 (hK _ hg' hb)
    · simp only [List.mem_cons, List.not_mem_nil, or_false] at hpm
      rcases hpm with rfl | rfl <;> exact hcv

/-- the two jobs side by side, both made since w0 -/
structure Pair (w0 w : World) (jb rb sb pb fb : Nat) (J : Jb) (r : Rs) : Prop where
  sj : Sj w0 w (Rown rb sb pb fb) jb J
  rj : Rj w rb sb pb fb r
  ro : ∀ b, Rown rb sb pb fb b → w0.heap.size ≤ b
  pc : ∀ p ∈ r.pt, RS w0 1 eInt p.cv p.cl
  rel : Rel J r
  inv : Inv J
section
variable {w0 w w' : World} {jb rb sb pb fb : Nat} {J : Jb} {r : Rs} {m : Mg}
theorem Pair.bel (h : Pair w0 w jb rb sb pb fb J r) : Below w0.heap.size w0 w := h.sj.bel
theorem Pair.step (h : Pair w0 w jb rb sb pb fb J r) (o : Below w.heap.size w w') : Pair w0 w' jb rb sb pb fb J r := ⟨h.sj.step o, h.rj.below o, h.ro, h.pc, h.rel, h.inv⟩
theorem Pair.pf (h : Pair w0 w jb rb sb pb fb J r) : ∀ p ∈ r.pt, ∃ x y z, p.cv = .slice x y z := fun p hp => by
  obtain ⟨_, a, c, e, _⟩ := h.pc p hp
  exact ⟨_, _, _, e⟩
/-- between the two hearings -/
structure Half (w0 w : World) (jb rb sb pb fb : Nat) (J : Jb) (r : Rs) (m : Mg) : Prop where
  sj : Sj w0 w (Rown rb sb pb fb) jb (hearJ J m)
  rj : Rj w rb sb pb fb r
  ro : ∀ b, Rown rb sb pb fb b → w0.heap.size ≤ b
  pc : ∀ p ∈ r.pt, RS w0 1 eInt p.cv p.cl
  rel : Rel J r
  inv : Inv J
theorem Half.step (h : Half w0 w jb rb sb pb fb J r m) (o : Below w.heap.size w w') : Half w0 w' jb rb sb pb fb J r m := ⟨h.sj.step o, h.rj.below o, h.ro, h.pc, h.rel, h.inv⟩
/-- the program's job hears -/
theorem Pair.hear1 {wr : World} (h : Pair w0 wr jb rb sb pb fb J r) (hb : Below wr.heap.size wr w) (him : InMem w m) (hs : Small m)
    (h6 : ∀ w6, Only (fun b => w0.heap.size ≤ b ∧ ¬ (Rown rb sb pb fb b ∨ (wr.heap.size ≤ b ∧ b < w.heap.size))) w w6 → InMem w6 m) :
    Calls Try.prog 21 #[.pointer (some ⟨jb, 0, none⟩), val m] w fun e w' => e = .returned (.tuple #[]) ∧ Half w0 w' jb rb sb pb fb J r m ∧ InMem w' m := by
  have hS := (h.sj.turn (K' := fun b => Rown rb sb pb fb b ∨ (wr.heap.size ≤ b ∧ b < w.heap.size)) (fun b hb e => by rcases e with e | e; exact e; omega)).step hb
  have hR := h.rj.below hb
  refine (hS.hear (J' := hearJ J m) (fun b e => ?_) him hs rfl).mono ?_
  · rcases e with e | e
    · exact hR.lt b e
    · exact e.2
  · rintro e w' ⟨rfl, h1, hO⟩
    exact ⟨rfl, ⟨h1.turn fun b _ e => .inl e, hR.only hO fun b hb e => e.2 (.inl hb), h.ro, h.pc, h.rel, h.inv⟩, h6 _ hO⟩
/-- the reference's job hears -/
theorem Half.hear2 {pv' : Value} (h : Half w0 w jb rb sb pb fb J r m) (hl : LikeIn w pv' m) (hf : ∃ x y z, pv' = .slice x y z) (h0 : Base13 w0 m) :
    Calls Try.prog 22 #[.pointer (some ⟨rb, 0, none⟩), .agg (eMs (likeM pv' m)).toArray] w fun e w' => e = .returned (.tuple #[]) ∧ Pair w0 w' jb rb sb pb fb (hearJ J m) (rHear r m) := by
  refine (rHear_any h.rj hl hf h0 h.ro).mono ?_
  rintro e w' ⟨rfl, h1, hO⟩
  obtain ⟨R, g1, g2, g3⟩ := h.sj
  refine ⟨rfl, ⟨R, g1.only hO (fun b hb e => (g2 b hb).2 e), g2, g3.trans (hO.below g3.size fun i hi e => by have := h.ro i e; omega)⟩, h1, h.ro, fun p hp => ?_, h.rel.hear m, h.inv.hear h.rel.ks m⟩
  rcases rHear_pt hp with e | e
  · exact h.pc p e
  · subst e; exact h0

/-- an out of the one as the other has it -/
structure PairOut (w : World) (x : Int × Mg) (y : Int × Ms) (k t j c : Int) (u : Option Addr) (z m : Nat) (qs : List Pt) : Prop where
  eq : y = (x.1, ⟨k, 0, t, j, c, 0, 0, zPt, .slice u m z, .slice none 0 0⟩)
  rs : RS w 6 ePt (.slice u m z) qs
  ln : qs.length = m
  cr : ∀ p ∈ qs, RS w 1 eInt p.cv p.cl
  im : InMem w x.2
  sm : Small x.2
  lk : ∀ w7 pv7, LikeIn w7 pv7 x.2 → ∃ u1 z1 qs1, likeM pv7 x.2 = ⟨k, 0, t, j, c, 0, 0, zPt, .slice u1 m z1, .slice none 0 0⟩ ∧ RS w7 6 ePt (.slice u1 m z1) qs1 ∧ qs1.length = m ∧ qs1.map strp = qs.map strp ∧ ∀ p ∈ qs1, RS w7 1 eInt p.cv p.cl
section
variable {x : Int × Mg} {y : Int × Ms} {k t j c : Int} {u : Option Addr} {z n : Nat} {qs : List Pt}
theorem PairOut.like (h : PairOut w x y k t j c u z n qs) (hb : Below w.heap.size w w') : Calls Try.prog 19 #[val x.2] w' fun e w7 => ∃ u1 z1 qs1, e = .returned (.agg #[.int .i64 k, .int .i64 0, .int .i64 t, .int .i64 j, .int .i64 c, .int .i64 0, .int .i64 0, .int .i64 0, .int .i64 0, .int .i64 0, .int .i64 0, .slice none 0 0, .bool false, .slice u1 n z1, .slice none 0 0]) ∧
      RS w7 6 ePt (.slice u1 n z1) qs1 ∧ qs1.length = n ∧ qs1.map strp = qs.map strp ∧ (∀ p ∈ qs1, RS w7 1 eInt p.cv p.cl) ∧ Below w'.heap.size w' w7 := by
  refine (like_any (InMem.below h.im hb) h.sm).mono ?_
  rintro e w7 ⟨pv7, rfl, hl, _, hb7⟩
  obtain ⟨u1, z1, qs1, e1, h1, h2, h3, h4⟩ := h.lk w7 pv7 hl
  exact ⟨u1, z1, qs1, by rw [e1]; rfl, h1, h2, h3, h4, hb7⟩
theorem PairOut.same (h : PairOut w x y k t j c u z n qs) (hb : Below w.heap.size w w') {u1 : Option Addr} {z1 : Nat} {qs1 : List Pt} (h1 : RS w' 6 ePt (.slice u1 n z1) qs1) (h2 : qs1.length = n) (h3 : qs1.map strp = qs.map strp) (h4 : ∀ p ∈ qs1, RS w' 1 eInt p.cv p.cl) :
    Calls Try.prog 31 #[.agg #[.int .i64 k, .int .i64 0, .int .i64 t, .int .i64 j, .int .i64 c, .int .i64 0, .int .i64 0, .int .i64 0, .int .i64 0, .int .i64 0, .int .i64 0, .slice none 0 0, .bool false, .slice u1 n z1, .slice none 0 0], .agg #[.int .i64 k, .int .i64 0, .int .i64 t, .int .i64 j, .int .i64 c, .int .i64 0, .int .i64 0, .int .i64 0, .int .i64 0, .int .i64 0, .int .i64 0, .slice none 0 0, .bool false, .slice u n z, .slice none 0 0]] w' fun e w'' => e = .returned (.bool true) ∧ Below w'.heap.size w' w'' :=
  sameM_any (cl := []) (x1 := none) (x2 := none) (y1 := 0) (y2 := 0) (RS.nil _ _ _) (RS.nil _ _ _) h1 (h.rs.only (only_of_below hb (fun _ => False)) (fun _ _ => id)) h2 h3 h4 (fun p hp => (h.cr p hp).only (only_of_below hb (fun _ => False)) (fun _ _ => id))
theorem PairOut.step (h : PairOut w x y k t j c u z n qs) (hb : Below w.heap.size w w') : PairOut w' x y k t j c u z n qs :=
  ⟨h.eq, h.rs.only (only_of_below hb (fun _ => False)) (fun _ _ => id), h.ln, fun p hp => (h.cr p hp).only (only_of_below hb (fun _ => False)) (fun _ _ => id), InMem.below h.im hb, h.sm, h.lk⟩
/-- one of those without parts -/
theorem pairOut_nil (w : World) (a : Int) {g : Mg} {k t j : Int} (h : (g = .pin t j ∧ k = 2) ∨ (g = .coll t j ∧ k = 5) ∨ (g = .unp t j ∧ k = 9)) : PairOut w (a, g) (a, likeM (.slice none 0 0) g) k t j 0 none 0 0 [] := by
  rcases h with ⟨rfl, rfl⟩ | ⟨rfl, rfl⟩ | ⟨rfl, rfl⟩ <;>
  exact ⟨rfl, RS.nil _ _ _, rfl, fun p hp => by simp at hp, trivial, trivial, fun w7 pv7 _ => ⟨none, 0, [], rfl, RS.nil _ _ _, rfl, rfl, fun p hp => by simp at hp⟩⟩
/-- the manifest's -/
theorem pairOut_man {w1 : World} {a : Int} {pv pv2 : Value} {ps : List Pt} (h : Pair w0 w jb rb sb pb fb J r) (hf : J.full = true) (hp : PtsNew w1 w pv ps (partsJ J)) (hs : SL w.heap 33 6 pv2 (visPts r r.st.length).length ((visPts r r.st.length).flatMap ePt)) :
    ∃ u z, pv2 = .slice u (visPts r r.st.length).length z ∧ PairOut w (a, .mani J.tr J.id J.cl pv ps) (a, ⟨7, 0, r.tr, r.id, r.cl, 0, 0, zPt, pv2, .slice none 0 0⟩) 7 J.tr J.id J.cl u z (visPts r r.st.length).length (visPts r r.st.length) := by
  obtain ⟨u, z, rfl⟩ := hs.form
  have hst : ps.map strip = (visPts r r.st.length).map strip := hp.st.trans (h.rel.parts h.inv hf).symm
  have hln : ps.length = (visPts r r.st.length).length := by have := congrArg List.length hst; simpa using this
  have hvl := visPts_len r r.st.length
  have h4 := h.rj.l4
  refine ⟨u, z, rfl, by rw [h.rel.tr, h.rel.id, h.rel.cl], SL.rs ePt_len' hs, rfl, fun p hp => ?_, hp.pts, show ps.length ≤ 1000000 by omega, fun w7 pv7 hl => ?_⟩
  · exact (h.pc p (mem_visPts (by rw [h.rj.lp]; exact Nat.le_refl _) hp)).only (only_of_below h.bel (fun _ => False)) (fun _ _ => id)
  · have hl' : SL w7.heap 33 6 pv7 ps.length (ps.flatMap ePt) ∧ ∀ p ∈ ps, RS w7 1 eInt p.cv p.cl := hl
    obtain ⟨u1, z1, e1⟩ := hl'.1.form
    have h7 := SL.rs ePt_len' hl'.1
    rw [e1] at h7 ⊢
    rw [hln] at h7 ⊢
    exact ⟨u1, z1, ps, rfl, h7, hln, stripStrp _ _ hst, hl'.2⟩
/-- all that both say -/
theorem Pair.outs {w1 : World} {v pv : Value} {outs : List (Int × Mg)} {hd : List (Int × Ms)} {lp : List Pt} (h : Pair w0 w jb rb sb pb fb J r) (ho : OutsNew w1 w J v outs) (hq : SL w.heap 33 6 pv lp.length (lp.flatMap ePt))
    (hh : (r.ph ≠ 2 ∧ hd = []) ∨ (r.ph = 2 ∧ hd = [(-1, ⟨7, 0, r.tr, r.id, r.cl, 0, 0, zPt, pv, .slice none 0 0⟩)] ∧ lp = visPts r r.st.length)) :
    outs.length = (hd ++ outR r r.st.length).length ∧ outs.length ≤ 5 ∧ ∀ (q : Nat) (x : Int × Mg), outs[q]? = some x → ∃ y, (hd ++ outR r r.st.length)[q]? = some y ∧ ∃ k t j c u z n qs, PairOut w x y k t j c u z n qs := by
  obtain ⟨hd', rfl, hH⟩ := ho.ex
  have hL := h.rel.outs
  have hlen : (outR r r.st.length).length = (outsT J).length := by rw [hL]; simp
  have hrl := outR_len r r.st.length
  have h4 := h.rj.l4
  have tail : ∀ (q : Nat) (x : Int × Mg), (outsT J)[q]? = some x → ∃ y, (outR r r.st.length)[q]? = some y ∧ ∃ k t j c u z n qs, PairOut w x y k t j c u z n qs := fun q x hx => by
    refine ⟨(x.1, likeM (.slice none 0 0) x.2), by rw [hL, List.getElem?_map, hx]; rfl, ?_⟩
    obtain ⟨a, g⟩ := x
    rcases mem_outsT (List.mem_of_getElem? hx) with e | e | e
    · exact ⟨_, _, _, _, _, _, _, _, pairOut_nil w a (k := 2) (.inl ⟨e, rfl⟩)⟩
    · exact ⟨_, _, _, _, _, _, _, _, pairOut_nil w a (k := 5) (.inr (.inl ⟨e, rfl⟩))⟩
    · exact ⟨_, _, _, _, _, _, _, _, pairOut_nil w a (k := 9) (.inr (.inr ⟨e, rfl⟩))⟩
  have hph := h.rel.ph
  rcases hH with ⟨hm, rfl⟩ | ⟨hm, pv1, ps, rfl, hp⟩
  · have hn2 : r.ph ≠ 2 := fun e => by
      rw [hph] at e
      have := h.inv.pf e
      simp [manOut, this, e] at hm
    rcases hh with ⟨_, rfl⟩ | ⟨e, _⟩
    · simp only [List.nil_append]
      exact ⟨hlen.symm, by omega, tail⟩
    · exact absurd e hn2
  · simp only [manOut, Bool.and_eq_true, decide_eq_true_eq] at hm
    rcases hh with ⟨e, _⟩ | ⟨_, rfl, rfl⟩
    · rw [hph] at e; exact absurd hm.2 e
    · refine ⟨by simp [hlen], by simp; omega, fun q x hx => ?_⟩
      cases q with
      | zero =>
        simp only [List.singleton_append, List.getElem?_cons_zero, Option.some.injEq] at hx
        subst hx
        obtain ⟨u, z, _, hpo⟩ := pairOut_man (a := -1) h hm.1 hp hq
        exact ⟨_, rfl, _, _, _, _, _, _, _, _, hpo⟩
      | succ q =>
        simp only [List.singleton_append, List.getElem?_cons_succ] at hx ⊢
        exact tail q x hx
end
end
end Go.Proofs.Ytniggacgkhkgiaa.Job

/-
  The plain law of FnTours: what the printed law computes is true for all bytes.
-/
import Derived.Test.YtekcngoemeadlaaPlainCallsU
import Derived.Test.YtekcngoemeadlaaUx6
namespace Go.Proofs.Ytekcngoemeadlaa.PlainU
open Go.RowKit Go.Proofs.YtekcngoemeadlaaW.PrintWords Go.Proofs.YtekcngoemeadlaaW.PrintLast Go.Proofs.YtekcngoemeadlaaW.PrintMore
open Go.Proofs.Ytekcngoemeadlaa.U

def dirOf (b : S54) : S26 := ⟨b.f0.f0, b.f0.f1⟩
/-- An index put into an order, not at its head. -/
theorem okO_put (i : Nat) (o : List Int) (a : Nat) (h : okO i o) : okO (i + 1) (o.take a ++ ((i : Int) :: o.drop a)) := by
  have hp : (o.take a ++ ((i : Int) :: o.drop a)).Perm ((i : Int) :: o) := by
    have := List.perm_middle (a := (i : Int)) (l₁ := o.take a) (l₂ := o.drop a)
    rwa [List.take_append_drop] at this
  have hni : (i : Int) ∉ o := fun hm => by have := h.2 _ hm; omega
  refine ⟨hp.nodup_iff.2 (List.nodup_cons.2 ⟨hni, h.1⟩), fun x hx => ?_⟩
  rcases List.mem_cons.1 (hp.mem_iff.1 hx) with rfl | hx
  · omega
  · have := h.2 x hx; omega
theorem order_loop (more : List Int) (hm : ∀ x ∈ more, 0 ≤ x ∧ x ≤ 255) (bs : List S54) (h4 : bs.length ≤ 4) : ∀ (d i : Nat) (o : List Int), i + d = bs.length → okO i o → o.length = i → (0 < i → o.take 1 = [0]) → (0 < bs.length) →
    ∃ o', okO bs.length o' ∧ o'.length = bs.length ∧ o'.take 1 = [0] ∧ ∀ k, laws_FnTours.l0 (k + d) more bs (bs.length : Int) ((bs.take i).map dirOf) o (i : Int) = laws_FnTours.l0 k more bs (bs.length : Int) (bs.map dirOf) o' (bs.length : Int) := by
  intro d
  induction d with
  | zero =>
    intro i o hi ho hl ht hp
    have e : i = bs.length := by omega
    refine ⟨o, e ▸ ho, by omega, ht (by omega), fun k => ?_⟩
    rw [List.take_of_length_le (by omega), e]
    rfl
  | succ d ih =>
    intro i o hi ho hl ht hp
    have hlt : i < bs.length := by omega
    have hdir : (bs.take i).map dirOf ++ [(⟨bs[i].f0.f0, bs[i].f0.f1⟩ : S26)] = (bs.take (i + 1)).map dirOf := by
      rw [List.take_succ_eq_append_getElem hlt, List.map_append]; rfl
    have hlen : ((bs.take i).map dirOf).length < 8796093022208 := by simp; omega
    rcases Nat.eq_zero_or_pos i with hz | hz
    · subst hz
      obtain rfl : o = [] := List.eq_nil_of_length_eq_zero hl
      obtain ⟨o', h1, h2, h3, h⟩ := ih 1 [0] (by omega) ⟨by simp, fun x hx => by simp at hx; omega⟩ rfl (fun _ => rfl) hp
      refine ⟨o', h1, h2, h3, fun k => ?_⟩
      rw [← h k, ← Nat.add_assoc, laws_FnTours.l0, if_pos (by omega), if_pos (by omega), if_pos (by omega), if_pos hlen, rd54 bs 0 hlt, hdir, Option.bind_some, if_neg (by omega), Option.bind_some, if_pos (by simp), Option.bind_some]
      simp only [List.drop_nil, List.take_nil, List.append_nil, List.nil_append, Option.bind_some, List.length_nil, List.length_cons]
      rw [if_pos (by omega), if_pos (by omega), if_pos (by omega), w64_succ hlt (by omega)]
      rfl
    · obtain ⟨t, ht1, t0, t1⟩ := at_some more hm (i : Int) (i : Int) (by omega) (by omega) (by omega)
      obtain ⟨a, ha⟩ := Int.eq_ofNat_of_zero_le t0
      subst ha
      have hput := okO_put i o (1 + a) ho
      obtain ⟨o', h1, h2, h3, h⟩ := ih (i + 1) (o.take (1 + a) ++ ((i : Int) :: o.drop (1 + a))) (by omega) hput (by simp; omega) (fun _ => by
        have := ht hz
        rw [List.take_append_of_le_length (by simp; omega), List.take_take, Nat.min_eq_left (by omega)]
        exact this) hp
      refine ⟨o', h1, h2, h3, fun k => ?_⟩
      have hn : (1 + (a : Int)).toNat = 1 + a := by omega
      rw [← h k, ← Nat.add_assoc, laws_FnTours.l0, if_pos (by omega), if_pos (by omega), if_pos (by omega), if_pos hlen, rd54 bs i hlt, hdir, Option.bind_some, if_pos (by omega), ht1, Option.bind_some, Option.bind_some, w64 (n := 1 + (a : Int)) (by omega) (by omega), if_pos (by omega), if_pos (by omega), hn, Option.bind_some]
      simp only [List.nil_append, List.length_nil, List.length_append, List.length_singleton, List.length_drop, List.length_take, Option.bind_some]
      rw [if_pos (by omega), if_pos (by omega), if_pos (by omega), w64_succ hlt (by omega)]
      rfl
theorem rdL6 (gs : List (List Int)) (g : Nat) (h : g < gs.length) : rd_L6 gs (g : Int) = gs[g] := by
  unfold rd_L6
  simp [List.getD_eq_getElem?_getD, List.getElem?_eq_getElem h]
theorem getD54 (l : List S54) (i : Nat) (h : i < l.length) : l.getD i z54 = l[i] := by
  simp [List.getD_eq_getElem?_getD, List.getElem?_eq_getElem h]
theorem mx4 (ap : Int) (x0 x1 y0 y1 : Int) (h : decide (mx (mx (wrap64 (y0 - x0)) (wrap64 (-(wrap64 (y0 - x0))))) (mx (wrap64 (y1 - x1)) (wrap64 (-(wrap64 (y1 - x1))))) < ap) = false)
    (hx0 : -30 ≤ x0 ∧ x0 ≤ 30) (hx1 : -30 ≤ x1 ∧ x1 ≤ 30) (hy0 : -30 ≤ y0 ∧ y0 ≤ 30) (hy1 : -30 ≤ y1 ∧ y1 ≤ 30) :
    ¬ (mx (mx (mx (wrap64 (x0 - y0)) (wrap64 (y0 - x0))) (wrap64 (x1 - y1))) (wrap64 (y1 - x1)) < ap) := by
  have h := of_decide_eq_false h
  rw [w64 (n := y0 - x0) (by omega) (by omega), w64 (n := y1 - x1) (by omega) (by omega), w64 (n := -(y0 - x0)) (by omega) (by omega), w64 (n := -(y1 - x1)) (by omega) (by omega)] at h
  rw [w64 (n := x0 - y0) (by omega) (by omega), w64 (n := y0 - x0) (by omega) (by omega), w64 (n := x1 - y1) (by omega) (by omega), w64 (n := y1 - x1) (by omega) (by omega)]
  unfold mx at *
  repeat' split at h
  all_goals repeat' split
  all_goals omega
theorem pair_loop (bs : List S54) (hb : ∀ b ∈ bs, okB b) (ap : Int) (gs : List (List Int)) (near : Int) (seen : List Int) (g q x : Nat) (hg : g < gs.length) (hq : q < gs[g].length) (hl : gs[g].length < 1000000) (hx : x < bs.length)
    (hfar : ∀ p : Nat, (hp : p < q) → ∃ y : Nat, y < bs.length ∧ gs[g][p]'(by omega) = (y : Int) ∧ nearB bs ap (bs.getD x z54).f0.f0 (bs.getD x z54).f0.f1 y = false) (n163 n164 n171 e0 e1 : Int) : ∀ (d p : Nat), p + d = q →
    ∀ k, laws_FnTours.l3 (k + d + 1) bs (bs.length : Int) ap gs near seen (g : Int) (q : Int) (x : Int) (p : Int) n163 n164 n171 (q : Int) e0 e1 = laws_FnTours.l2 k bs (bs.length : Int) ap gs near seen (g : Int) n163 n164 n171 ((q + 1 : Nat) : Int) e0 e1 := by
  intro d
  induction d with
  | zero =>
    intro p hp k
    show laws_FnTours.l3 (k + 1) _ _ _ _ _ _ _ _ _ _ _ _ _ _ _ _ = _
    simp only [laws_FnTours.l3]
    rw [if_neg (by omega), w64_succ hq (by omega)]
  | succ d ih =>
    intro p hp k
    obtain ⟨y, hy, hgy, hn⟩ := hfar p (by omega)
    have hgp : rd gs[g] (p : Int) = (y : Int) := by rw [rdI gs[g] p (by omega), hgy]
    rw [getD54 bs x hx] at hn
    unfold nearB at hn
    rw [getD54 bs y hy] at hn
    obtain ⟨bx0, bx1, -⟩ := hb _ (List.getElem_mem hx)
    obtain ⟨by0, by1, -⟩ := hb _ (List.getElem_mem hy)
    have hmx := mx4 ap _ _ _ _ hn bx0 bx1 by0 by1
    show laws_FnTours.l3 (k + d + 1 + 1) _ _ _ _ _ _ _ _ _ _ _ _ _ _ _ _ = _
    rw [laws_FnTours.l3]
    simp only [rdL6 gs g hg, hgp, rd54 bs x hx, rd54 bs y hy]
    rw [if_pos (by omega), if_pos (by omega), if_pos (by omega), if_pos (by omega), if_pos (by omega), if_pos (by omega), if_pos (by omega), if_pos (by omega), if_pos (by omega), if_neg hmx, w64_succ (show p < gs[g].length by omega) (by omega)]
    exact ih (p + 1) (by omega) k
theorem rd_set (l : List Int) (a j : Nat) (v : Int) (ha : a < l.length) : rd (l.set a v) (j : Int) = if a = j then v else rd l (j : Int) := by
  unfold rd
  simp only [Int.toNat_natCast, List.getD_eq_getElem?_getD, List.getElem?_set]
  split
  · simp
  · rfl
/-- The bounds of a group's entries, and how often each stands in all groups. -/
structure OkG (bs : List S54) (ap : Int) (gs : List (List Int)) : Prop where
  small : ∀ (g : Nat) (h : g < gs.length), gs[g].length < 1000000
  few : gs.length < 1000000
  far : ∀ (g : Nat) (h : g < gs.length) (q : Nat) (hq : q < gs[g].length), ∃ x : Nat, x < bs.length ∧ gs[g][q] = (x : Int) ∧ ∀ p : Nat, (hp : p < q) → ∃ y : Nat, y < bs.length ∧ gs[g][p]'(by omega) = (y : Int) ∧ nearB bs ap (bs.getD x z54).f0.f0 (bs.getD x z54).f0.f1 y = false
/-- seen holds how often each beam was met among some entries. -/
def Seen (n : Nat) (seen : List Int) (met : List Int) : Prop := seen.length = n ∧ ∀ a : Nat, a < n → rd seen (a : Int) = (met.count (a : Int) : Nat)
theorem Seen.put {n : Nat} {seen met : List Int} (h : Seen n seen met) (x : Nat) (hx : x < n) (hs : met.length < 1000000000) : Seen n (seen.set x (wrap64 (rd seen (x : Int) + 1))) (met ++ [(x : Int)]) := by
  refine ⟨by simp [h.1], fun a ha => ?_⟩
  have hc : met.count (x : Int) ≤ met.length := List.count_le_length
  rw [rd_set _ _ _ _ (by rw [h.1]; exact hx), h.2 x hx, List.count_append]
  by_cases e : x = a
  · subst e
    rw [if_pos rfl, w64 (by omega) (by omega)]
    simp
  · rw [if_neg e, h.2 a ha]
    have : [(x : Int)].count (a : Int) = 0 := by
      rw [List.count_eq_zero]; simp; omega
    omega
theorem group_loop (bs : List S54) (hb : ∀ b ∈ bs, okB b) (ap : Int) (gs : List (List Int)) (hG : OkG bs ap gs) (near n163 e0 e1 : Int) (g : Nat) (hg : g < gs.length) : ∀ (d q : Nat) (seen met : List Int), q + d = gs[g].length → Seen bs.length seen met → met.length + d < 100000000 →
    ∃ (c : Nat) (seen' : List Int), Seen bs.length seen' (met ++ gs[g].drop q) ∧ ∀ k, laws_FnTours.l2 (k + c) bs (bs.length : Int) ap gs near seen (g : Int) n163 (g : Int) (gs[g].length : Int) (q : Int) e0 e1 = laws_FnTours.l1 k bs (bs.length : Int) ap gs near seen' n163 ((g + 1 : Nat) : Int) e0 e1 := by
  intro d
  induction d with
  | zero =>
    intro q seen met hq hs hm
    refine ⟨1, seen, by rw [List.drop_of_length_le (by omega), List.append_nil]; exact hs, fun k => ?_⟩
    rw [laws_FnTours.l2, if_neg (by omega), w64_succ hg (by have := hG.few; omega)]
  | succ d ih =>
    intro q seen met hq hs hm
    have hlt : q < gs[g].length := by omega
    obtain ⟨x, hx, hgx, hfar⟩ := hG.far g hg q hlt
    have hsm := hG.small g hg
    obtain ⟨c, seen', h1, h2⟩ := ih (q + 1) _ _ (by omega) (hs.put x hx (by omega)) (by simp; omega)
    refine ⟨c + q + 1 + 1 + 1, seen', ?_, fun k => ?_⟩
    · rw [List.drop_eq_getElem_cons hlt, hgx]
      simpa using h1
    · rw [← h2 k, ← pair_loop bs hb ap gs near (seen.set x (wrap64 (rd seen (x : Int) + 1))) g q x hg hlt hsm hx hfar n163 (g : Int) (gs[g].length : Int) e0 e1 q 0 (by omega) (k + c)]
      have hgp : rd gs[g] (q : Int) = (x : Int) := by rw [rdI gs[g] q (by omega), hgx]
      have hsl := hs.1
      rw [show k + (c + q + 1 + 1 + 1) = (k + c + q + 1) + 1 + 1 by omega, laws_FnTours.l2]
      simp only [rdL6 gs g hg, hgp]
      rw [if_pos (by omega), if_pos (by omega), if_pos (by omega), if_pos (by omega), if_pos (by omega), if_neg (by omega), laws_FnTours.j4, if_neg (by simp; omega), if_pos (by omega), if_pos (by omega), Int.toNat_natCast]
      rfl
theorem groups_loop (bs : List S54) (hb : ∀ b ∈ bs, okB b) (ap : Int) (gs : List (List Int)) (hG : OkG bs ap gs) (near e0 e1 : Int) (hfl : gs.flatten.length < 1000000) : ∀ (d g : Nat) (seen met : List Int), g + d = gs.length → Seen bs.length seen met → met ++ (gs.drop g).flatten = gs.flatten →
    ∃ (c : Nat) (seen' : List Int), Seen bs.length seen' gs.flatten ∧ ∀ k, laws_FnTours.l1 (k + c) bs (bs.length : Int) ap gs near seen (gs.length : Int) (g : Int) e0 e1 = laws_FnTours.l1 (k + 1) bs (bs.length : Int) ap gs near seen' (gs.length : Int) (gs.length : Int) e0 e1 := by
  intro d
  induction d with
  | zero =>
    intro g seen met hg hs hm
    have e : g = gs.length := by omega
    subst e
    rw [List.drop_length] at hm
    refine ⟨1, seen, ?_, fun k => rfl⟩
    rw [← hm]; simpa using hs
  | succ d ih =>
    intro g seen met hg hs hm
    have hlt : g < gs.length := by omega
    have hsm := hG.small g hlt
    rw [List.drop_eq_getElem_cons hlt, List.flatten_cons] at hm
    have hml : met.length + gs[g].length ≤ gs.flatten.length := by
      rw [← hm]
      simp only [List.length_append]
      omega
    obtain ⟨c1, seen1, s1, h1⟩ := group_loop bs hb ap gs hG near (gs.length : Int) e0 e1 g hlt gs[g].length 0 seen met (by omega) hs (by omega)
    obtain ⟨c2, seen2, s2, h2⟩ := ih (g + 1) seen1 (met ++ gs[g]) (by omega) (by simpa using s1) (by rw [List.append_assoc]; exact hm)
    refine ⟨c2 + c1 + 1, seen2, s2, fun k => ?_⟩
    rw [← h2 k, ← h1 (k + c2), show k + (c2 + c1 + 1) = (k + c2 + c1) + 1 by omega, laws_FnTours.l1, if_pos (by omega), if_pos (by omega), if_pos (by omega), rdL6 gs g hlt]
    rfl
theorem last_loop (bs : List S54) (seen : List Int) (d0 d1 : Int) (nb : Nat) (hnb : nb < bs.length) (hmin : ∀ j, j < bs.length → nsq bs d0 d1 nb ≤ nsq bs d0 d1 j) (h4 : bs.length ≤ 4) (hsl : seen.length = bs.length) (hs : ∀ a : Nat, a < bs.length → rd seen (a : Int) = 1) : ∀ (d i : Nat), i + d = bs.length →
    ∀ k, laws_FnTours.l4 (k + d + 1) bs (bs.length : Int) seen (i : Int) d0 d1 (rd_T54 bs (nb : Int)).f0.f0 (rd_T54 bs (nb : Int)).f0.f1 = some true := by
  intro d
  induction d with
  | zero =>
    intro i hi k
    rw [laws_FnTours.l4, if_neg (by omega)]
  | succ d ih =>
    intro i hi k
    have hlt : i < bs.length := by omega
    have hm := hmin i hlt
    unfold nsq at hm
    rw [getD54 bs i hlt, getD54 bs nb hnb] at hm
    have := ih (i + 1) (by omega) k
    rw [rd54 bs nb hnb] at this ⊢
    rw [show k + (d + 1) + 1 = (k + d + 1) + 1 by omega, laws_FnTours.l4, if_pos (by omega), if_pos (by omega), if_pos (by omega), if_pos (by omega), if_pos (hs i hlt), rd54 bs i hlt, if_neg (by omega), w64_succ hlt (by omega)]
    exact this
theorem okB_areD (l : List S54) (h : ∀ b ∈ l, okB b) (h1 : 1 ≤ l.length) (h2 : l.length ≤ 4) : areD (l.map dirOf) = true := by
  simp only [areD, Bool.and_eq_true, inB_iff, List.length_map]
  refine ⟨List.all_eq_true.2 (fun b hb => ?_), by omega, by omega⟩
  obtain ⟨c, hc, rfl⟩ := List.mem_map.1 hb
  obtain ⟨⟨a0, a1⟩, ⟨b0, b1⟩, -⟩ := h c hc
  exact vdir_small (by simp [dirOf]; omega) (by simp [dirOf]; omega) (by simp [dirOf]; omega) (by simp [dirOf]; omega)
theorem okG_farG (bs : List S54) (ap : Int) (h4 : bs.length ≤ 4) : OkG bs ap (farG bs ap bs.length) := by
  refine ⟨fun g h => ?_, ?_, fun g h q hq => ?_⟩
  · have := farG_len2 bs ap bs.length _ (List.getElem_mem h); omega
  · have := farG_len bs ap bs.length; omega
  · have hin := farG_in bs ap bs.length _ (List.getElem_mem h) _ (List.getElem_mem hq)
    obtain ⟨x, hx⟩ := Int.eq_ofNat_of_zero_le hin.1
    refine ⟨x, by omega, hx, fun p hp => ?_⟩
    obtain ⟨x', y, e1, e2, e3⟩ := farG_far bs ap bs.length _ (List.getElem_mem h) p q hq hp
    have hin2 := farG_in bs ap bs.length _ (List.getElem_mem h) _ (List.getElem_mem (show p < ((farG bs ap bs.length)[g]).length by omega))
    have ex : x' = x := by rw [hx] at e1; omega
    subst ex
    exact ⟨y, by rw [e2] at hin2; omega, e2, e3⟩
theorem flat_len (bs : List S54) (ap : Int) (h4 : bs.length ≤ 4) : ((farG bs ap bs.length).flatten).length < 1000000 := by
  have h1 := farG_len bs ap bs.length
  have h2 : ∀ g ∈ farG bs ap bs.length, g.length ≤ 4 := fun g hg => by have := farG_len2 bs ap bs.length g hg; omega
  generalize farG bs ap bs.length = gs at *
  have : ∀ gs : List (List Int), (∀ g ∈ gs, g.length ≤ 4) → gs.flatten.length ≤ 4 * gs.length := by
    intro gs
    induction gs with
    | nil => intro _; simp
    | cons a l ih =>
      intro h
      have h0 := h a (by simp)
      have h1 := ih (fun g hg => h g (by simp [hg]))
      simp only [List.flatten_cons, List.length_append, List.length_cons]
      omega
  have := this gs h2
  omega
theorem law_end (more : List Int) (hm : ∀ x ∈ more, 0 ≤ x ∧ x ≤ 255) (bs : List S54) (hb : ∀ b ∈ bs, okB b) (h1 : 1 ≤ bs.length) (h4 : bs.length ≤ 4) (o : List Int) (ho : okO bs.length o) (hol : o.length = bs.length) (ho1 : o.take 1 = [0]) :
    ∃ k, 100000 < k ∧ laws_FnTours.l0 k more bs (bs.length : Int) (bs.map dirOf) o (bs.length : Int) = some true := by
  have hlm : (bs.map dirOf).length = bs.length := List.length_map ..
  obtain ⟨b, t, hbo, hbl, hb1, hK⟩ := shortest_best (bs.map dirOf) (okB_areD bs hb h1 h4)
  obtain ⟨ap, hap, ap0, ap1⟩ := at_some more hm 0 40 (by omega) (by omega) (by omega)
  obtain ⟨u, v, hdir, hvd⟩ := direction_some more hm
  have haB := okB_areB bs hb h1 h4
  rw [hlm] at hbo hbl hK
  have hnb := nbest_lt bs u v bs.length (by omega) bs.length (Nat.le_refl _)
  have hmin := fun j hj => nbest_min bs u v bs.length j hj
  generalize hnbe : nbest bs u v bs.length = nb at *
  have hs0 : Seen bs.length (List.replicate bs.length 0) [] := ⟨by simp, fun a ha => by rw [rdI _ a (by simpa using ha)]; simp⟩
  obtain ⟨c, seen, hs, hloop⟩ := groups_loop bs hb ap (farG bs ap bs.length) (okG_farG bs ap h4) (nb : Int) u v (flat_len bs ap h4) (farG bs ap bs.length).length 0 _ [] (by omega) hs0 (by simp)
  have hone : ∀ a : Nat, a < bs.length → rd seen (a : Int) = 1 := fun a ha => by
    rw [hs.2 a ha, farG_count, if_pos (by omega)]; rfl
  have hlast := last_loop bs seen u v nb hnb hmin h4 hs.1 hone bs.length 0 (by omega) 200000
  refine ⟨200000 + bs.length + 1 + c + 1 + 1, by omega, ?_⟩
  obtain ⟨hS, hT, hO⟩ := hK (200000 + bs.length + 1 + c + 1) (by omega)
  obtain ⟨r, hr, hle⟩ := hO o ho hol ho1
  have hb0 : rd b 0 = 0 := by
    have h0 : 0 < b.length := by omega
    rw [show (0 : Int) = ((0 : Nat) : Int) from rfl, rdI b 0 h0]
    obtain ⟨x, l, rfl⟩ : ∃ x l, b = x :: l := by cases b with | nil => simp at h0 | cons x l => exact ⟨x, l, rfl⟩
    simpa using hb1
  rw [laws_FnTours.l0, if_neg (by omega), hS]
  simp only [Option.bind_some]
  rw [hT]
  simp only [Option.bind_some]
  rw [hr]
  simp only [Option.bind_some]
  rw [hap]
  simp only [Option.bind_some]
  rw [far_val bs haB h4 ap (by omega) (by omega) _ (by omega)]
  simp only [Option.bind_some]
  rw [hdir]
  simp only [Option.bind_some]
  rw [near_val bs haB h4 u v hvd _ (by omega), hnbe]
  simp only [Option.bind_some]
  simp only [if_true]
  rw [if_pos (by omega), if_pos (by omega), if_pos hb0, if_neg (by omega), if_neg (by omega)]
  rw [laws_FnTours.j1, if_neg (by simp; omega), if_pos (by omega), if_pos (by omega), Int.toNat_natCast]
  exact (hloop (200000 + bs.length + 1)).trans (by rw [laws_FnTours.l1, if_neg (by omega), if_pos (by omega), if_pos (by omega)]; exact hlast)
theorem u8_range {x : Int} (h : (Lit.int .u8 x).wf = true) : 0 ≤ x ∧ x ≤ 255 := by
  have e0 : IntKind.u8.min = 0 := by decide
  have e1 : IntKind.u8.max = 255 := by decide
  simp only [Lit.wf, Bool.and_eq_true, decide_eq_true_eq, e0, e1] at h
  exact h
theorem fnTours_bytes (l0 l1 : List Int) (h0 : ∀ x ∈ l0, 0 ≤ x ∧ x ≤ 255) (hm : ∀ x ∈ l1, 0 ≤ x ∧ x ≤ 255) : ∃ k, laws_FnTours.f k l0 l1 = some true := by
  obtain ⟨bs, ⟨h1, h4⟩, hb, hB⟩ := beams_some l0 h0
  obtain ⟨o, ho, hol, ho1, hloop⟩ := order_loop l1 hm bs h4 bs.length 0 [] (by omega) ⟨by simp, by simp⟩ rfl (by omega) (by omega)
  obtain ⟨k, hk, hend⟩ := law_end l1 hm bs hb h1 h4 o ho hol ho1
  refine ⟨k + bs.length, ?_⟩
  unfold laws_FnTours.f laws_b10Long.f
  have hmain : ((spec_B10Beams.f (k + bs.length) l0).bind fun t177 => (laws_FnTours.l0 (k + bs.length) l1 t177 (t177.length : Int) (([] : List (S26))) (([] : List Int)) 0)) = some true := by
    rw [hB _ (by omega)]
    exact (hloop k).trans hend
  by_cases c0 : (l0.length : Int) > 1048576
  · rw [if_pos c0]; rfl
  · rw [if_neg c0]
    simp only [Option.bind_some]
    by_cases c1 : (l1.length : Int) > 1048576
    · rw [if_pos (by simpa using c1)]
    · rw [if_neg (by simpa using c1)]
      exact hmain
theorem fnTours_plain : laws_FnTours.Pure := fun l0 l1 _ _ h0 _ _ h1 => fnTours_bytes l0 l1 (fun x hx => u8_range (h0 x hx)) (fun x hx => u8_range (h1 x hx))
end Go.Proofs.Ytekcngoemeadlaa.PlainU

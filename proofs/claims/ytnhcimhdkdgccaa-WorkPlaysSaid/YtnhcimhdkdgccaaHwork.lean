/- work's places as a heap: Push, Pop, all; heap.Push, heap.Pop. -/
import Derived.Test.YtnhcimhdkdgccaaHheap
import Derived.Deep.RegionLaw
namespace Go.Proofs.Ytnhcimhdkdgccaa.P
open Go.RowKit Go.Lib Go.Sort Go.Proofs.YtnhcimhdkdgccaaW.PrintWords Go.Proofs.YtnhcimhdkdgccaaW.PrintLast Go.Proofs.YtnhcimhdkdgccaaW.PrintMore

/-- A heap, empty or not: the pointer's block holds a slice, whose memory is its own. -/
structure HQ (w0 w : World) (p : Nat) (S : Nat → Prop) (v : Value) (xs : List Int) : Prop where
  hp : w.heap[p]? = some (.cells #[v] 73 (0, 0))
  own : dI.R 3 w w0.heap.size S v xs
  bel : Below w0.heap.size w0 w
  ne : ¬ S p
  pb : w0.heap.size ≤ p
theorem HQ.lt {w0 w : World} {p : Nat} {S : Nat → Prop} {v : Value} {xs : List Int} (h : HQ w0 w p S v xs) : p < w.heap.size := blk_lt h.hp
theorem HQ.cell {w0 w : World} {p : Nat} {S : Nat → Prop} {v : Value} {xs : List Int} (h : HQ w0 w p S v xs) : w.cell? ⟨p, 0, none⟩ = some v ∧ w.frozen? ⟨p, 0, none⟩ = false := by
  have := h.hp
  exact ⟨by simp [World.cell?, this], by simp [World.frozen?, this]⟩
theorem cell_hp {w : World} {p t : Nat} {v : Value} (h : w.heap[p]? = some (.cells #[v] t (0, 0))) : w.cell? ⟨p, 0, none⟩ = some v ∧ w.frozen? ⟨p, 0, none⟩ = false := ⟨by simp [World.cell?, h], by simp [World.frozen?, h]⟩
theorem cell_put {w : World} {p t : Nat} {v u : Value} (h : w.heap[p]? = some (.cells #[v] t (0, 0))) : (w.setCell ⟨p, 0, none⟩ u).heap[p]? = some (.cells #[u] t (0, 0)) := by
  simp only [World.setCell, Array.getElem?_modify]
  rw [if_pos trivial, h]
  rfl

theorem ppush_end {w0 w w1 : World} {p : Nat} {S : Nat → Prop} {v v1 : Value} {xs ys : List Int} (h : HQ w0 w p S v xs) (hp : w1.heap[p]? = some (.cells #[v] 73 (0, 0)))
    (ho : dI.R 3 w1 w0.heap.size (fun k => S k ∨ w.heap.size ≤ k) v1 ys) (hb : Below w0.heap.size w0 w1) (hg : w.drew.grownBy w1 v.ownBlock) :
    ∃ v', HQ w0 (w1.setCell ⟨p, 0, none⟩ v1) p (fun k => (S k ∨ w.heap.size ≤ k) ∧ k ≠ p) v' ys ∧ Kept w (w1.setCell ⟨p, 0, none⟩ v1) (fun k => S k ∨ k = p) := by
  have hlt := h.lt
  have hne : ∀ k, S k ∨ w.heap.size ≤ k → k ≠ p := by
    rintro k (hk | hk) rfl
    · exact h.ne hk
    · omega
  refine ⟨v1, ⟨cell_put hp, Kd.R_far (Kd.R_mono ho (fun k hk => ⟨hk, hne k hk⟩)) (fun k hk => hk.2) _, hb.setCell h.pb _, fun hk => hk.2 rfl, h.pb⟩, ?_⟩
  exact Kept.setCell (Kept.of_grown hg (Kept.drew (Kept.refl w _)) (fun k e => .inl (.inl (h.own.1 k e)))) (.inl (.inr rfl)) _

set_option maxHeartbeats 4000000 in
set_option maxRecDepth 100000 in
theorem ppush_c {w0 w : World} {p : Nat} {S : Nat → Prop} {v : Value} {xs : List Int} (x : Int) (h : HQ w0 w p S v xs) (hn : xs.length ≤ 1000000) :
    Calls Try.prog 116 #[.pointer (some ⟨p, 0, none⟩), .iface 3 (.int .i64 x)] w fun e w' => e = .returned (.tuple #[]) ∧ ∃ v', HQ w0 w' p (fun k => (S k ∨ w.heap.size ≤ k) ∧ k ≠ p) v' (xs ++ [x]) ∧ Kept w w' (fun k => S k ∨ k = p) := by
  have HH := Aside0.mk h
  obtain ⟨hc, hf⟩ := h.cell
  obtain ⟨A, c, rfl⟩ := Kd.R_slice h.own
  obtain ⟨n, en⟩ : ∃ n, n = xs.length := ⟨_, rfl⟩
  have hw0 : Aside0 (w0.heap.size ≤ w.heap.size) := ⟨h.bel.size⟩
  have HN := Aside0.mk en
  rw [← en] at hc HH hn
  have HR1 : Aside0 (dI.R 3 w.drew w0.heap.size (fun k => S k ∨ w.heap.size ≤ k) (.slice A n c) xs) := ⟨Kd.R_drew (Kd.R_mono HH.out.own (fun k hk => .inl hk))⟩
  have HB1 : Aside0 (Below w0.heap.size w0 w.drew) := ⟨below_drew HH.out.bel⟩
  have HLN : Aside0 ((xs.length + 1) * 8 ≤ 140737488355328) := ⟨by omega⟩
  have HPL : Aside0 (p < w.drew.heap.size) := ⟨blk_lt h.hp⟩
  have HPN : Aside0 (some p ≠ (Value.slice A n c).ownBlock) := ⟨fun e => HH.out.ne (HH.out.own.1 p e.symm)⟩
  have hcA : ∀ o, (w.alloc o).cell? ⟨p, 0, none⟩ = some (.slice A n c) := fun o => (World.cell?_alloc_lt w o ⟨p, 0, none⟩ (blk_lt h.hp)).trans hc
  clear h en
  have hta : ∀ w, (Instr.typeAssert (.iface 3 (.int .i64 x)) 20 3 false).run Try.prog w = .ok (.int .i64 x) w := fun w => by kernel_rfl
  go_enter Try.func116, Try.ntmps116
  go_region_law (refine Kd.R_append_step (Kd.int .i64) (w0 := w0) (W := w.drew) w0.heap.size rfl (.tmp 7) (.tmp 10) 73 3 (.int .i64 0) 8 rfl Try.underlying73 info3 rfl (by decide) (by omega) (.slice A n c) xs x [.int .i64 x] (fun k => S k ∨ w.heap.size ≤ k) (fun _ => False) (by simp [Act.eval]) (by simp [Act.eval]) rfl (fun _ hk => hk.elim) (fun k hk => .inr hk) HR1.out HB1.out hw0.out HLN.out ?_; intro v1 w1 ho hb hg hat; obtain ⟨A1, c1, rfl⟩ := Kd.R_slice ho; have HPW := Aside0.mk ((hg.block p HPL.out HPN.out).trans HH.out.hp); obtain ⟨hc1, hf1⟩ := cell_hp HPW.out; have HO := Aside0.mk ho; have HB := Aside0.mk hb; have HG := Aside0.mk hg; have HAT := Aside0.mk hat; clear ho hb hg hat)
  all_goals
    go_end0
    have h := ppush_end HH.out HPW.out HO.out HB.out HG.out
    rw [List.length_append, List.length_singleton] at h
    exact ⟨rfl, h⟩

set_option maxRecDepth 100000 in
theorem len_c (w : World) (A : Option Addr) (n c : Nat) : Calls Try.prog 113 #[.slice A n c] w fun e w' => e = .returned (.int .i64 n) ∧ w' = w := by
  go_enter Try.func113, Try.ntmps113
  go_wp2
  go_ret
  exact ⟨rfl, rfl⟩

theorem HQ.toHS {w0 w : World} {p : Nat} {S : Nat → Prop} {v : Value} {xs : List Int} (h : HQ w0 w p S v xs) (hpos : 0 < xs.length) :
    ∃ g c, v = .slice (some ⟨g, 0, none⟩) xs.length c ∧ S g ∧ HS w0 w p g xs.length c xs := by
  obtain ⟨g, c, rfl, _⟩ := Kd.R_form h.own hpos
  have hg : S g := h.own.1 g (by simp [Value.ownBlock])
  exact ⟨g, c, rfl, hg, h.hp, rfl, Kd.R_mono (Kd.R_tight rfl h.own) (fun k e => by simp [Value.ownBlock] at e; exact e), h.bel, fun e => h.ne (by rw [e]; exact hg)⟩
theorem HS.toHQ {w0 w : World} {p g n c : Nat} {xs : List Int} (h : HS w0 w p g n c xs) {S : Nat → Prop} (hg : S g) (hp : ¬ S p) (hb : w0.heap.size ≤ p) : HQ w0 w p S (.slice (some ⟨g, 0, none⟩) n c) xs :=
  ⟨h.hp, Kd.R_mono h.own (fun k e => by rw [e]; exact hg), h.bel, hp, hb⟩

set_option maxHeartbeats 4000000 in
set_option maxRecDepth 100000 in
theorem hpush_c {w0 w : World} {p k : Nat} {S : Nat → Prop} {v : Value} {xs ys : List Int} (x : Int) (h : HQ w0 w p S v xs) (hn : xs.length < 1000000) (hu : upN k (xs ++ [x]) xs.length = some ys) :
    Calls Try.prog 51 #[.iface 72 (.pointer (some ⟨p, 0, none⟩)), .iface 3 (.int .i64 x)] w fun e w' => e = .returned (.tuple #[]) ∧ ∃ v', HQ w0 w' p (fun k => (S k ∨ w.heap.size ≤ k) ∧ k ≠ p) v' ys ∧ Kept w w' (fun k => S k ∨ k = p) := by
  have HH := Aside0.mk h
  have HU := Aside0.mk hu
  have HPB := Aside0.mk h.pb
  obtain ⟨n, en⟩ : ∃ n, n = xs.length := ⟨_, rfl⟩
  have HEN := Aside0.mk en
  have hn1 : n < 1000000 := by omega
  clear h hu en
  go_enter Try.func51, Try.ntmps51
  go_upto_region 1 with (first | (rw [u_push]) | (go_at_call 116; refine (ppush_c x HH.out (by have := HEN.out; omega)).mono ?_; rintro e w1 ⟨rfl, v1, h1, hk1⟩; have H1 := Aside0.mk h1; have HK1 := Aside0.mk hk1; clear h1 hk1))
  obtain ⟨g, c, e1, hg1, h1⟩ := H1.out.toHS (by simp)
  subst e1
  have hl1 : (xs ++ [x]).length = n + 1 := by rw [List.length_append, List.length_singleton, HEN.out]
  rw [hl1] at h1
  have HS1 := Aside0.mk h1
  have HGG := Aside0.mk hg1
  clear h1 hg1 hl1
  have HUP : Aside0 (Calls Try.prog 70 #[.iface 72 (.pointer (some ⟨p, 0, none⟩)), .int .i64 n] w1 fun e w' => e = .returned (.tuple #[]) ∧ HS w0 w' p g (n + 1) c ys ∧ Kept w1 w' (fun k => k = g)) := ⟨up_c HS1.out (by omega) (by omega) (by rw [HEN.out]; exact HU.out)⟩
  go_wp2_with (first | (rw [u_len HS1.out.hp]) | (go_at_call 113; refine (len_c w1 _ _ _).mono ?_; rintro e w' ⟨rfl, rfl⟩) | (go_at_call 70; refine HUP.out.mono ?_; rintro e w2 ⟨rfl, h2, hk2⟩; have HS2 := Aside0.mk h2; have HK2 := Aside0.mk hk2; clear h2 hk2))
  go_end0
  refine ⟨rfl, _, HS2.out.toHQ HGG.out (fun hk => hk.2 rfl) HPB.out, HK1.out.then_ HK2.out (fun k hk => ?_)⟩
  rw [hk]
  exact HGG.out.1.imp .inl id

set_option maxHeartbeats 4000000 in
set_option maxRecDepth 100000 in
theorem ppop_c {w0 w : World} {p g n c : Nat} {xs : List Int} (h : HS w0 w p g (n + 1) c xs) (hpb : w0.heap.size ≤ p) (hn : n < 1000000) :
    Calls Try.prog 115 #[.pointer (some ⟨p, 0, none⟩)] w fun e w' => e = .returned (.iface 3 (.int .i64 (xs.getD n 0))) ∧ HQ w0 w' p (fun k => k = g) (.slice (some ⟨g, 0, none⟩) n c) (xs.take n) ∧ Kept w w' (fun k => k = p) := by
  have HH := Aside0.mk h
  have HPB := Aside0.mk hpb
  obtain ⟨hc, hf⟩ := cell_hp h.hp
  have hown := h.own
  have hx0 := (Kd.R_celln 0 hown (n : Int) (by omega) (by omega)).1
  obtain ⟨x, ex⟩ : ∃ x, x = xs.getD n 0 := ⟨_, rfl⟩
  have hx : w.cell? ⟨g, n, none⟩ = some (.int .i64 x) := by
    rw [ex]
    rw [Int.toNat_natCast] at hx0
    exact hx0
  have HX := Aside0.mk ex
  have hcap : n + 1 ≤ c := (Kd.R_reads' hown).2.1
  rw [← ex]
  clear h hpb hown hx0 ex
  go_enter Try.func115, Try.ntmps115
  go_wp2
  go_ret
  have hne : ∀ k, k = g → k ≠ p := fun k hk e => HH.out.ne (by rw [← e]; exact hk)
  exact ⟨rfl, ⟨cell_put HH.out.hp, Kd.R_far (Kd.R_take HH.out.own (by have := HH.out.len; omega)) hne _, HH.out.bel.setCell HPB.out _, HH.out.ne, HPB.out⟩, Kept.setCell (S := fun k => k = p) (Kept.refl w _) (p := ⟨p, 0, none⟩) (.inl rfl) _⟩

set_option maxHeartbeats 4000000 in
set_option maxRecDepth 100000 in
theorem hpop_c {w0 w : World} {p n k : Nat} {S : Nat → Prop} {v : Value} {xs ys : List Int} (h : HQ w0 w p S v xs) (hl : xs.length = n + 1) (hn : n < 1000000) (hu : downN k (swp xs 0 n) 0 n = some ys) :
    Calls Try.prog 52 #[.iface 72 (.pointer (some ⟨p, 0, none⟩))] w fun e w' => e = .returned (.iface 3 (.int .i64 (ys.getD n 0))) ∧ ∃ v', HQ w0 w' p S v' (ys.take n) ∧ Kept w w' (fun k => S k ∨ k = p) := by
  have HPB := Aside0.mk h.pb
  have HNE := Aside0.mk h.ne
  obtain ⟨g, c, rfl, hg, h0⟩ := h.toHS (by omega)
  rw [hl] at h0
  have HS0 := Aside0.mk h0
  have HG := Aside0.mk hg
  have HU := Aside0.mk hu
  clear h hl h0 hg hu
  have HSW : Aside0 (Calls Try.prog 117 #[.slice (some ⟨g, 0, none⟩) (n + 1) c, .int .i64 0, .int .i64 n] w fun e w' => e = .returned (.tuple #[]) ∧ HS w0 w' p g (n + 1) c (swp xs 0 n) ∧ Kept w w' (fun k => k = g)) := ⟨swap_h HS0.out 0 n (by omega) (by omega)⟩
  go_enter Try.func52, Try.ntmps52
  go_upto_region 3 with (first | (rw [u_len HS0.out.hp]) | (go_at_call 113; refine (len_c w _ _ _).mono ?_; rintro e w' ⟨rfl, rfl⟩) | (rw [u_swap HS0.out.hp]) | (go_at_call 117; refine HSW.out.mono ?_; rintro e w1 ⟨rfl, h1, hk1⟩; have HS1 := Aside0.mk h1; have HK1 := Aside0.mk hk1; clear h1 hk1))
  have HDN : Aside0 (Calls Try.prog 71 #[.iface 72 (.pointer (some ⟨p, 0, none⟩)), .int .i64 0, .int .i64 n] w1 fun e w' => (∃ b, e = .returned (.bool b)) ∧ HS w0 w' p g (n + 1) c ys ∧ Kept w1 w' (fun k => k = g)) := ⟨down_c HS1.out (by omega) (by omega) (by omega) HU.out⟩
  go_upto_region 4 with (go_at_call 71; refine HDN.out.mono ?_; rintro e w2 ⟨⟨b, rfl⟩, h2, hk2⟩; have HS2 := Aside0.mk h2; have HK2 := Aside0.mk hk2; clear h2 hk2)
  have HPP := Aside0.mk (ppop_c HS2.out HPB.out hn)
  go_wp2_with (first | (rw [u_pop]) | (go_at_call 115; refine HPP.out.mono ?_; rintro e w3 ⟨rfl, h3, hk3⟩; have HQ3 := Aside0.mk h3; have HK3 := Aside0.mk hk3; clear h3 hk3))
  go_ret
  refine ⟨rfl, _, ⟨HQ3.out.hp, Kd.R_mono HQ3.out.own (fun k e => by rw [e]; exact HG.out), HQ3.out.bel, HNE.out, HPB.out⟩, ?_⟩
  refine ((HK1.out.mono (S' := fun k => S k ∨ k = p) (fun k e => .inl (by rw [e]; exact HG.out))).then_ HK2.out (fun k e => .inl (.inl (by rw [e]; exact HG.out)))).then_ HK3.out (fun k e => .inl (.inr e))

end Go.Proofs.Ytnhcimhdkdgccaa.P

/- What the claim uses of: Hinsert Hwith PlawRankEdgeTF PlawRankEdgeT PureRankEdge -/
import Derived.Test.YtdknhgbjgdmfkaaQG4
namespace Go.Proofs.Ytdknhgbjgdmfkaa.P
open Go.RowKit Go.Lib Go.Sort Go.Shelf Go.Proofs.YtdknhgbjgdmfkaaW.PrintWords Go.Proofs.YtdknhgbjgdmfkaaW.PrintLast Go.Proofs.YtdknhgbjgdmfkaaW.PrintMore
theorem setCell_block {w : World} {g t : Nat} {cur : Array Value} (h : w.heap[g]? = some (.cells cur t (0, 0))) (b o : Nat) (u : Value) :
    ∃ cur', (w.setCell ⟨b, o, none⟩ u).heap[g]? = some (.cells cur' t (0, 0)) ∧ cur'.size = cur.size := by
  simp only [World.setCell, Array.getElem?_modify]
  by_cases e : b = g
  · subst e
    rw [if_pos rfl, h]
    exact ⟨_, rfl, by simp⟩
  · rw [if_neg e]
    exact ⟨cur, h, rfl⟩
theorem setCells_block {g t : Nat} (b : Nat) : ∀ (vs : List Value) (o : Nat) (w : World) (cur : Array Value), w.heap[g]? = some (.cells cur t (0, 0)) → ∃ cur', (w.setCells b o vs).heap[g]? = some (.cells cur' t (0, 0)) ∧ cur'.size = cur.size
  | [], _, _, cur, h => ⟨cur, h, rfl⟩
  | v :: vs, o, w, cur, h => by
    obtain ⟨c1, h1, e1⟩ := setCell_block h b o v
    obtain ⟨c2, h2, e2⟩ := setCells_block b vs (o + 1) _ c1 h1
    exact ⟨c2, h2, e2.trans e1⟩
theorem fr_setCells (g : Nat) : ∀ (vs : List Value) (o : Nat) (w : World), Fr (fun k => k = g) w (w.setCells g o vs)
  | [], _, w => Fr.refl _ w
  | v :: vs, o, w => ((Fr.refl (fun k => k = g) w).setCell (p := ⟨g, o, none⟩) (.inl rfl) v).trans (fr_setCells g vs (o + 1) _) (fun _ h => .inl h)
theorem own_of_cells {w : World} {base g t cap : Nat} {cur : Array Value} {ys : List Value} (hh : w.heap[g]? = some (.cells cur t (0, 0))) (hs : cur.size = cap) (hc : cap ≤ maxLen) (hb : base ≤ g) (hl : ys.length ≤ cap) (h : ∀ j (hj : j < ys.length), w.cell? ⟨g, j, none⟩ = some ys[j]) :
    w.ownsRow base t 1 (.slice (some ⟨g, 0, none⟩) ys.length cap) ys.length ys := by
  refine ⟨by omega, .inr ⟨g, cap, cur, rfl, hb, hh, hl, hc, by omega, ?_⟩⟩
  apply List.ext_getElem?
  intro j
  rw [Nat.mul_one, List.getElem?_take]
  by_cases hj : j < ys.length
  · rw [if_pos hj, List.getElem?_eq_getElem hj, Array.getElem?_toList]
    have := h j hj
    simp only [World.cell?, hh] at this
    simpa using this
  · rw [if_neg hj, List.getElem?_eq_none (by omega)]
section
variable {xs : List Int} {x : Int} {i : Nat}
theorem ins_len (hi : i ≤ xs.length) : ((xs.take i ++ x :: xs.drop i).map (Value.int .i64)).length = xs.length + 1 := by simp; omega
theorem ins_get (hi : i ≤ xs.length) (j : Nat) (hj : j < ((xs.take i ++ x :: xs.drop i).map (Value.int .i64)).length) :
    ((xs.take i ++ x :: xs.drop i).map (Value.int .i64))[j] = .int .i64 (if j < i then xs.getD j 0 else if j = i then x else xs.getD (j - 1) 0) := by
  rw [ins_len hi] at hj
  rw [List.getElem_map]
  congr 1
  have hl : (xs.take i).length = i := by rw [List.length_take]; omega
  by_cases h1 : j < i
  · rw [if_pos h1, List.getElem_append_left (by omega), List.getElem_take, List.getD_eq_getElem?_getD, List.getElem?_eq_getElem (by omega)]
    rfl
  · rw [if_neg h1, List.getElem_append_right (by omega)]
    by_cases h2 : j = i
    · subst h2
      rw [if_pos rfl]
      simp only [hl, Nat.sub_self, List.getElem_cons_zero]
    · rw [if_neg h2]
      obtain ⟨m, hm⟩ : ∃ m, j - i = m + 1 := ⟨j - i - 1, by omega⟩
      simp only [hl, hm, List.getElem_cons_succ, List.getElem_drop]
      rw [List.getD_eq_getElem?_getD, List.getElem?_eq_getElem (by omega), Option.getD_some]
      congr 1
      omega
end
theorem zero_cells (n : Nat) : (Builtin.zeroCells (Value.int .i64 0).cells n).size = n := by
  unfold Builtin.zeroCells
  simp [Value.cells]
theorem own_alloc_lit (W : World) (base t cap : Nat) (ys : List Value) (Z : Array Value) (hs : ys.length + Z.size = cap) (hc : cap ≤ maxLen) (hb : base ≤ W.heap.size) :
    (W.alloc (.cells (ys.toArray ++ Z) t)).ownsRow base t 1 (.slice (some ⟨W.heap.size, 0, none⟩) ys.length cap) ys.length ys :=
  ⟨by omega, .inr ⟨W.heap.size, cap, _, rfl, hb, heap_alloc_new W _, by omega, hc, by simp; omega, by simp⟩⟩
theorem ins_end_grow (a : Option Addr) (n c vb : Nat) (cs vs : List Value) (w : World) (hnc : n ≤ c) (hroom : c < n + 1) (hbig : (n + 1) * 8 ≤ 140737488355328) (hcl : cs.length = n) (hvl : vs.length = 1) (hnil : a = none → n = 0)
    (hcs : ∀ b, a = some b → ∀ j v, cs[j]? = some v → w.cell? (b.add j) = some v) (hvs : ∀ j v, vs[j]? = some v → w.cell? ⟨vb, 0 + j, none⟩ = some v) (h1v : ∀ v ∈ vs, v.oneCell' = true) :
    Calls Try.prog 63 #[.slice a n c, .int .i64 n, .slice (some ⟨vb, 0, none⟩) 1 1] w fun e w' => e = .returned (.slice (some ⟨w.heap.size, 0, none⟩) (n + 1) (grownCap w (n + 1) c 3)) ∧
      w' = w.drew.alloc (.cells ((cs ++ vs).toArray ++ Builtin.zeroCells (Value.int .i64 0).cells (grownCap w (n + 1) c 3 - (n + 1))) 3) :=
  Any2.slices_Insert_int_end_grow Try.laysIns a n c vb 0 1 1 cs vs w Nat.one_pos hnc hroom hbig hcl hvl hnil hcs hvs h1v
theorem ins_grow (g n c i vb : Nat) (cs vs : List Value) (w : World) (hi : i < n) (hnc : n ≤ c) (hroom : c < n + 1) (hbig : (n + 1) * 8 ≤ 140737488355328) (hcl : cs.length = n) (hvl : vs.length = 1)
    (hcs : ∀ j v, cs[j]? = some v → w.cell? ⟨g, 0 + j, none⟩ = some v) (hvs : ∀ j v, vs[j]? = some v → w.cell? ⟨vb, 0 + j, none⟩ = some v) (h1c : ∀ v ∈ cs, v.oneCell' = true) (h1v : ∀ v ∈ vs, v.oneCell' = true) :
    Calls Try.prog 63 #[.slice (some ⟨g, 0, none⟩) n c, .int .i64 i, .slice (some ⟨vb, 0, none⟩) 1 1] w fun e w' => e = .returned (.slice (some ⟨w.heap.size, 0, none⟩) (n + 1) (grownCap w (n + 1) c 3)) ∧
      w' = (((w.alloc (.cells ((cs.take i).toArray ++ Builtin.zeroCells (Value.int .i64 0).cells (n + 1 - i) ++ Builtin.zeroCells (Value.int .i64 0).cells (grownCap w (n + 1) c 3 - (n + 1))) 3)).drew.setCells w.heap.size i vs).drew).setCells w.heap.size (i + 1) (cs.drop i) :=
  Any2.slices_Insert_int_grow Try.laysIns g 0 n c i vb 0 1 1 cs vs w hi Nat.one_pos hnc hroom hbig hcl hvl hcs hvs h1c h1v
theorem ins_shift (g n c i vb : Nat) (cs vs : List Value) (w : World) (hi : i < n) (hroom : n + 1 ≤ c) (hc63 : c ≤ 9223372036854775807) (hvb : vb ≠ g) (hcl : cs.length = n) (hvl : vs.length = 1)
    (hcs : ∀ j v, cs[j]? = some v → w.cell? ⟨g, 0 + j, none⟩ = some v) (hsp : ∀ j, j < n + 1 → (w.cell? ⟨g, 0 + j, none⟩).isSome = true) (hfz : ∀ j, j < n + 1 → w.frozen? ⟨g, 0 + j, none⟩ = false)
    (hvs : ∀ j v, vs[j]? = some v → w.cell? ⟨vb, 0 + j, none⟩ = some v) (h1c : ∀ v ∈ cs, v.oneCell' = true) (h1v : ∀ v ∈ vs, v.oneCell' = true)
    (tA tB : TypeId) (kA kB : Nat) (hsa : w.shape? vb = some (tA, kA)) (hsb : w.shape? g = some (tB, kB)) (hkB : kB ≠ 0) (hfa : w.frozen? ⟨vb, 0, none⟩ = false) (hfe : w.frozen? ⟨vb, kA, none⟩ = false) :
    Calls Try.prog 63 #[.slice (some ⟨g, 0, none⟩) n c, .int .i64 i, .slice (some ⟨vb, 0, none⟩) 1 1] w fun e w' => e = .returned (.slice (some ⟨g, 0, none⟩) (n + 1) c) ∧ w' = (w.drew.setCells g (0 + (i + 1)) (cs.drop i)).setCells g (0 + i) vs :=
  Any2.slices_Insert_int_shift Try.laysIns g 0 n c i vb 0 1 1 cs vs w hi Nat.one_pos hroom hc63 hvb hcl hvl hcs hsp hfz hvs h1c h1v tA tB kA kB hsa hsb hkB hfa hfe
theorem ins_end_room (g n c vb : Nat) (vs : List Value) (w : World) (hroom : n + 1 ≤ c) (hc63 : c ≤ 9223372036854775807) (hvl : vs.length = 1) (hsp : ∀ j, j < 1 → (w.cell? ⟨g, 0 + n + j, none⟩).isSome = true) (hfz : ∀ j, j < 1 → w.frozen? ⟨g, 0 + n + j, none⟩ = false)
    (hvs : ∀ j v, vs[j]? = some v → w.cell? ⟨vb, 0 + j, none⟩ = some v) (h1v : ∀ v ∈ vs, v.oneCell' = true) :
    Calls Try.prog 63 #[.slice (some ⟨g, 0, none⟩) n c, .int .i64 n, .slice (some ⟨vb, 0, none⟩) 1 1] w fun e w' => e = .returned (.slice (some ⟨g, 0, none⟩) (n + 1) c) ∧ w' = w.setCells g (0 + n) vs :=
  Any2.slices_Insert_int_end_room Try.laysIns g 0 n c vb 0 1 1 vs w Nat.one_pos hroom hc63 hvl hsp hfz hvs h1v
theorem insert_c (v : Value) (xs : List Int) (x : Int) (i base : Nat) (ok : Nat → Prop) (w : World) (vb : Nat) (h : dI.R 3 w base ok v xs) (hi : i ≤ xs.length) (hsm : xs.length ≤ 1000000) (hvb : w.heap[vb]? = some (.cells #[.int .i64 x] 3 (0, 0))) (hne : v.ownBlock ≠ some vb) (hbase : base ≤ w.heap.size) :
    Calls Try.prog 63 #[v, .int .i64 i, .slice (some ⟨vb, 0, none⟩) 1 1] w fun e w' => ∃ v', e = .returned v' ∧ w'.ownsRow base 3 1 v' (xs.length + 1) ((xs.take i ++ x :: xs.drop i).map (Value.int .i64)) ∧ Fr (fun k => v.ownBlock = some k) w w' ∧ (v'.ownBlock = v.ownBlock ∨ ∃ b, v'.ownBlock = some b ∧ w.heap.size ≤ b) := by
  have hvs : ∀ (j : Nat) (u : Value), [Value.int .i64 x][j]? = some u → w.cell? ⟨vb, 0 + j, none⟩ = some u := by
    intro j u hu
    match j, hu with
    | 0, hu => injection hu with hu; subst hu; simp [World.cell?, hvb]
    | j + 1, hu => simp at hu
  have h1v : ∀ u ∈ [Value.int .i64 x], u.oneCell' = true := by intro u hu; simp at hu; subst hu; rfl
  have hc1 : ∀ u ∈ xs.map (Value.int .i64), u.oneCell' = true := by
    intro u hu
    obtain ⟨y, _, rfl⟩ := List.mem_map.1 hu
    rfl
  rcases R_ints_form h with ⟨rfl, rfl⟩ | ⟨g, cap, rfl, hbg, hlt, hn, hH⟩
  ·
    obtain rfl : i = 0 := by simpa using hi
    refine (ins_end_grow none 0 0 vb [] [.int .i64 x] w (by omega) (by omega) (by omega) rfl rfl (fun _ => rfl) (fun a ha => by cases ha) hvs h1v).mono ?_
    rintro e w' ⟨rfl, rfl⟩
    have hg1 := grownCap_ge w 1 0 3
    refine ⟨_, rfl, ?_, (Fr.drewN _ w 1).alloc _, .inr ⟨w.heap.size, rfl, Nat.le_refl _⟩⟩
    exact own_alloc_lit w.drew base 3 (grownCap w 1 0 3) [Value.int .i64 x] _ (by rw [zero_cells]; simp; omega) (grownCap_le_maxLen _ _ _ _ (by decide)) hbase
  · have hown := R_ints h
    obtain ⟨cur, hcur, hcs, hcm⟩ : ∃ cur, w.heap[g]? = some (.cells cur 3 (0, 0)) ∧ cur.size = cap ∧ cap ≤ maxLen := by
      rcases hown.2 with ⟨e0, _⟩ | ⟨g', cap', cur, e0, _, hh, _, hm, hs, _⟩
      · cases e0
      · injection e0 with e1 _ e3
        injection e1 with e1
        injection e1 with e1
        subst e1; subst e3
        exact ⟨cur, hh, by omega, hm⟩
    have hcap63 : cap ≤ 9223372036854775807 := hcm
    have hgv : vb ≠ g := fun e => hne (by simp [Value.ownBlock, e])
    have hcell : ∀ j, j < xs.length → w.cell? ⟨g, j, none⟩ = some (.int .i64 (xs.getD j 0)) := by
      intro j hj
      rw [hown.cellAt j (by omega), List.getElem?_map, List.getElem?_eq_getElem hj, List.getD_eq_getElem?_getD, List.getElem?_eq_getElem hj]
      rfl
    have hcx : ∀ (j : Nat) (u : Value), (xs.map (Value.int .i64))[j]? = some u → w.cell? ⟨g, 0 + j, none⟩ = some u := by
      intro j u hu
      rw [Nat.zero_add]
      have hj : j < xs.length := by simpa using (List.getElem?_eq_some_iff.1 hu).1
      rw [hown.cellAt j (by omega)]
      exact hu
    have hsome : ∀ j, j < cap → (w.cell? ⟨g, j, none⟩).isSome = true := by
      intro j hj
      simp only [World.cell?, hcur]
      simp [Array.getElem?_eq_getElem (show j < cur.size by omega)]
    have hfz : ∀ j, w.frozen? ⟨g, j, none⟩ = false := fun j => hown.frozenAt j
    by_cases hroom : xs.length + 1 ≤ cap
    · by_cases hil : i < xs.length
      ·
        refine (ins_shift g xs.length cap i vb (xs.map (Value.int .i64)) [.int .i64 x] w hil hroom hcap63 hgv (by simp) rfl hcx (fun j hj => by rw [Nat.zero_add]; exact hsome j (by omega)) (fun j hj => hfz _) hvs hc1 h1v
          3 3 1 cap (by simp [World.shape?, hvb]) (by simp [World.shape?, hcur, hcs]) (by omega) (by simp [World.frozen?, hvb]) (by simp [World.frozen?, hvb])).mono ?_
        rintro e w' ⟨rfl, rfl⟩
        have hcur' : (w.drew).heap[g]? = some (.cells cur 3 (0, 0)) := hcur
        obtain ⟨c1, hc1', e1⟩ := setCells_block (t := 3) g ((xs.map (Value.int .i64)).drop i) (0 + (i + 1)) w.drew cur hcur'
        obtain ⟨c2, hc2', e2⟩ := setCells_block (t := 3) g [Value.int .i64 x] (0 + i) _ c1 hc1'
        refine ⟨_, rfl, ?_, ?_, .inl rfl⟩
        · have hl := ins_len (x := x) hi
          have := own_of_cells (base := base) (ys := (xs.take i ++ x :: xs.drop i).map (Value.int .i64)) hc2' (by omega) hcm hbg (by rw [hl]; omega) (fun j hj => by
            rw [ins_get hi j hj]
            rw [hl] at hj
            have hs1 : ∀ k, k < ((xs.map (Value.int .i64)).drop i).length → ((w.drew).cell? ⟨g, 0 + (i + 1) + k, none⟩).isSome = true := fun k hk => by
              rw [List.length_drop, List.length_map] at hk
              exact hsome _ (by omega)
            have hin : ∀ k (hk : k < ((xs.map (Value.int .i64)).drop i).length), ((w.drew).setCells g (0 + (i + 1)) ((xs.map (Value.int .i64)).drop i)).cell? ⟨g, 0 + (i + 1) + k, none⟩ = some ((xs.map (Value.int .i64)).drop i)[k] := World.cell?_setCells_in g _ _ _ hs1
            by_cases h1 : j < i
            · rw [if_pos h1, World.cell?_setCells_out g _ _ _ _ (fun _ _ => .inl (by show j < 0 + i; omega)), World.cell?_setCells_out g _ _ _ _ (fun _ _ => .inl (by show j < 0 + (i + 1); omega))]
              exact hcell j (by omega)
            · rw [if_neg h1]
              by_cases h2 : j = i
              · subst h2
                rw [if_pos rfl]
                have := World.cell?_setCells_in g [Value.int .i64 x] (0 + j) ((w.drew).setCells g (0 + (j + 1)) ((xs.map (Value.int .i64)).drop j)) (fun k hk => by
                  obtain rfl : k = 0 := by simpa using hk
                  rw [World.cell?_setCells_out g _ _ _ _ (fun _ _ => .inl (by show 0 + j + 0 < 0 + (j + 1); omega))]
                  exact hsome _ (by omega)) 0 (by simp)
                simpa using this
              · rw [if_neg h2, World.cell?_setCells_out g _ _ _ _ (fun _ _ => .inr (by show 0 + i + 1 ≤ j; omega))]
                have := hin (j - i - 1) (by rw [List.length_drop, List.length_map]; omega)
                rw [show 0 + (i + 1) + (j - i - 1) = j by omega] at this
                rw [this, List.getElem_drop, List.getElem_map, List.getD_eq_getElem?_getD, List.getElem?_eq_getElem (by omega), Option.getD_some]
                congr 3
                omega)
          rw [hl] at this
          exact this
        · have := ((Fr.drewN (fun k => k = g) w 1).trans (fr_setCells g ((xs.map (Value.int .i64)).drop i) (0 + (i + 1)) (w.drewN 1)) (fun _ hh => .inl hh)).trans (fr_setCells g [Value.int .i64 x] (0 + i) _) (fun _ hh => .inl hh)
          exact ⟨this.os, this.tape, this.output, this.size, fun k hk hn' => this.block k hk (fun e => hn' (by simp [Value.ownBlock, e]))⟩
      ·
        obtain rfl : i = xs.length := by omega
        refine (ins_end_room g xs.length cap vb [.int .i64 x] w hroom hcap63 rfl (fun j hj => by rw [Nat.zero_add]; exact hsome _ (by omega)) (fun j hj => hfz _) hvs h1v).mono ?_
        rintro e w' ⟨rfl, rfl⟩
        obtain ⟨c2, hc2', e2⟩ := setCells_block (t := 3) g [Value.int .i64 x] (0 + xs.length) w cur hcur
        refine ⟨_, rfl, ?_, ?_, .inl rfl⟩
        · have hl := ins_len (x := x) (Nat.le_refl xs.length)
          have := own_of_cells (base := base) (ys := (xs.take xs.length ++ x :: xs.drop xs.length).map (Value.int .i64)) hc2' (by omega) hcm hbg (by rw [hl]; omega) (fun j hj => by
            rw [ins_get (Nat.le_refl _) j hj]
            rw [hl] at hj
            by_cases h1 : j < xs.length
            · rw [if_pos h1, World.cell?_setCells_out g _ _ _ _ (fun _ _ => .inl (by show j < 0 + xs.length; omega))]
              exact hcell j h1
            · obtain rfl : j = xs.length := by omega
              rw [if_neg h1, if_pos rfl]
              have := World.cell?_setCells_in g [Value.int .i64 x] (0 + xs.length) w (fun k hk => by
                obtain rfl : k = 0 := by simpa using hk
                exact hsome _ (by omega)) 0 (by simp)
              simpa using this)
          rw [hl] at this
          exact this
        · have := fr_setCells g [Value.int .i64 x] (0 + xs.length) w
          exact ⟨this.os, this.tape, this.output, this.size, fun k hk hn' => this.block k hk (fun e => hn' (by simp [Value.ownBlock, e]))⟩
    · have hg1 := grownCap_ge w (xs.length + 1) cap 3
      have hg2 := grownCap_le_maxLen w (xs.length + 1) cap 3 (by unfold maxLen; omega)
      by_cases hil : i < xs.length
      ·
        refine (ins_grow g xs.length cap i vb (xs.map (Value.int .i64)) [.int .i64 x] w hil hn (by omega) (by omega) (by simp) rfl hcx hvs hc1 h1v).mono ?_
        rintro e w' ⟨rfl, hw'⟩
        obtain ⟨nb, enb⟩ : ∃ nb, nb = w.alloc (.cells (((xs.map (Value.int .i64)).take i).toArray ++ Builtin.zeroCells (Value.int .i64 0).cells (xs.length + 1 - i) ++ Builtin.zeroCells (Value.int .i64 0).cells (grownCap w (xs.length + 1) cap 3 - (xs.length + 1))) 3) := ⟨_, rfl⟩
        have hnb : nb.heap[w.heap.size]? = some (.cells (((xs.map (Value.int .i64)).take i).toArray ++ Builtin.zeroCells (Value.int .i64 0).cells (xs.length + 1 - i) ++ Builtin.zeroCells (Value.int .i64 0).cells (grownCap w (xs.length + 1) cap 3 - (xs.length + 1))) 3 (0, 0)) := by rw [enb]; exact heap_alloc_new w _
        have hnsz : (((xs.map (Value.int .i64)).take i).toArray ++ Builtin.zeroCells (Value.int .i64 0).cells (xs.length + 1 - i) ++ Builtin.zeroCells (Value.int .i64 0).cells (grownCap w (xs.length + 1) cap 3 - (xs.length + 1))).size = grownCap w (xs.length + 1) cap 3 := by
          simp only [Array.size_append, List.size_toArray, List.length_take, List.length_map, zero_cells]
          omega
        have hnsome : ∀ j, j < grownCap w (xs.length + 1) cap 3 → (nb.cell? ⟨w.heap.size, j, none⟩).isSome = true := by
          intro j hj
          simp only [World.cell?, hnb]
          rw [Array.getElem?_eq_getElem (by rw [hnsz]; exact hj)]
          rfl
        have hfn : Fr (fun k => (Value.slice (some ⟨g, 0, none⟩) xs.length cap).ownBlock = some k) w nb := by rw [enb]; exact (Fr.refl _ w).alloc _
        rw [← enb] at hw'
        subst hw'
        obtain ⟨c1, hc1', e1⟩ := setCells_block (t := 3) w.heap.size [Value.int .i64 x] i nb.drew _ hnb
        obtain ⟨c2, hc2', e2⟩ := setCells_block (t := 3) w.heap.size ((xs.map (Value.int .i64)).drop i) (i + 1) ((nb.drew.setCells w.heap.size i [Value.int .i64 x]).drew) c1 hc1'
        refine ⟨_, rfl, ?_, ?_, .inr ⟨w.heap.size, rfl, Nat.le_refl _⟩⟩
        · have hl := ins_len (x := x) hi
          have := own_of_cells (base := base) (ys := (xs.take i ++ x :: xs.drop i).map (Value.int .i64)) hc2' (by omega) hg2 hbase (by rw [hl]; exact hg1) (fun j hj => by
            rw [ins_get hi j hj]
            rw [hl] at hj
            by_cases h1 : j < i
            · rw [if_pos h1, World.cell?_setCells_out _ _ _ _ _ (fun _ _ => .inl (by show j < i + 1; omega))]
              show (nb.drew.setCells w.heap.size i [Value.int .i64 x]).cell? _ = _
              rw [World.cell?_setCells_out _ _ _ _ _ (fun _ _ => .inl (by show j < i; omega))]
              show nb.cell? _ = _
              simp only [World.cell?, hnb]
              rw [Array.append_assoc, Array.getElem?_append_left (by simp; omega)]
              simp [h1, List.getElem?_eq_getElem (show j < xs.length by omega)]
            · rw [if_neg h1]
              by_cases h2 : j = i
              · subst h2
                rw [if_pos rfl, World.cell?_setCells_out _ _ _ _ _ (fun _ _ => .inl (by show j < j + 1; omega))]
                have := World.cell?_setCells_in w.heap.size [Value.int .i64 x] j nb.drew (fun k hk => by
                  obtain rfl : k = 0 := by simpa using hk
                  exact hnsome _ (by omega)) 0 (by simp)
                simpa using this
              · rw [if_neg h2]
                have := World.cell?_setCells_in w.heap.size ((xs.map (Value.int .i64)).drop i) (i + 1) ((nb.drew.setCells w.heap.size i [Value.int .i64 x]).drew) (fun k hk => by
                  rw [List.length_drop, List.length_map] at hk
                  show ((nb.drew.setCells w.heap.size i [Value.int .i64 x]).cell? _).isSome = true
                  rw [World.cell?_setCells_out _ _ _ _ _ (fun _ _ => .inr (by show i + 1 ≤ i + 1 + k; omega))]
                  exact hnsome _ (by omega)) (j - i - 1) (by rw [List.length_drop, List.length_map]; omega)
                rw [show i + 1 + (j - i - 1) = j by omega] at this
                rw [this, List.getElem_drop, List.getElem_map, List.getD_eq_getElem?_getD, List.getElem?_eq_getElem (by omega), Option.getD_some]
                congr 3
                omega)
          rw [hl] at this
          exact this
        · have f1 := hfn.trans (Fr.drewN (fun k => k = w.heap.size) nb 1) (fun k e => .inr (by omega))
          have f2 := f1.trans (fr_setCells w.heap.size [Value.int .i64 x] i (nb.drewN 1)) (fun k e => .inr (by omega))
          have f3 := f2.trans (Fr.drewN (fun k => k = w.heap.size) _ 1) (fun k e => .inr (by omega))
          exact f3.trans (fr_setCells w.heap.size ((xs.map (Value.int .i64)).drop i) (i + 1) _) (fun k e => .inr (by omega))
      ·
        obtain rfl : i = xs.length := by omega
        refine (ins_end_grow (some ⟨g, 0, none⟩) xs.length cap vb (xs.map (Value.int .i64)) [.int .i64 x] w hn (by omega) (by omega) (by simp) rfl (fun e => by cases e) (fun a ha j u hu => by
          injection ha with ha
          subst ha
          rw [Go.WideShapes.add_plain]
          exact hcx j u hu) hvs h1v).mono ?_
        rintro e w' ⟨rfl, rfl⟩
        refine ⟨_, rfl, ?_, (Fr.drewN _ w 1).alloc _, .inr ⟨w.heap.size, rfl, Nat.le_refl _⟩⟩
        have hl : (xs.map (Value.int .i64) ++ [Value.int .i64 x]).length = xs.length + 1 := by simp
        have e1 : (xs.take xs.length ++ x :: xs.drop xs.length).map (Value.int .i64) = xs.map (Value.int .i64) ++ [Value.int .i64 x] := by simp
        rw [e1]
        have := own_alloc_lit w.drew base 3 (grownCap w (xs.length + 1) cap 3) (xs.map (Value.int .i64) ++ [Value.int .i64 x]) (Builtin.zeroCells (Value.int .i64 0).cells (grownCap w (xs.length + 1) cap 3 - (xs.length + 1))) (by rw [zero_cells, hl]; omega) hg2 hbase
        rw [hl] at this
        exact this
end Go.Proofs.Ytdknhgbjgdmfkaa.P
namespace Go.Proofs.Ytdknhgbjgdmfkaa.P
open Go.RowKit Go.Lib Go.Sort Go.Shelf Go.Proofs.YtdknhgbjgdmfkaaW.PrintWords Go.Proofs.YtdknhgbjgdmfkaaW.PrintLast Go.Proofs.YtdknhgbjgdmfkaaW.PrintMore
theorem S_newelem {w : World} {base go n cap j : Nat} {xs : List (List Int)} {ok : Nat → Prop} (h : Kd.S dG 32 w base ok (.slice (some ⟨go, 0, none⟩) n cap) xs) (hnew : ∀ k, w.heap.size ≤ k → ok k) (hj : j < n) :
    ∃ A c, w.cell? ⟨go, j, none⟩ = some (.slice A (xs.getD j []).length c) ∧ dI.R 3 w base (fun k => ok k ∧ k ≠ go) (.slice A (xs.getD j []).length c) (xs.getD j []) ∧ ok go ∧
      ∀ w2 v2 ys, w2.ownsRow base 3 1 v2 ys.length (ys.map (Value.int .i64)) → Fr (fun k => (Value.slice A (xs.getD j []).length c).ownBlock = some k) w w2 →
        (v2.ownBlock = (Value.slice A (xs.getD j []).length c).ownBlock ∨ ∃ b, v2.ownBlock = some b ∧ w.heap.size ≤ b) →
        (∃ u, w2.cell? ⟨go, j, none⟩ = some u ∧ w2.frozen? ⟨go, j, none⟩ = false) ∧ Kd.S dG 32 (w2.setCell ⟨go, j, none⟩ v2) base ok (.slice (some ⟨go, 0, none⟩) n cap) (xs.set j ys) := by
  have hgo : go < w.heap.size := Kd.S_lt h go (by simp [Value.ownBlock])
  have hgb : base ≤ go := Kd.S_base h go (by simp [Value.ownBlock])
  have h2 : Kd.S dG 32 w base (fun k => ok k ∧ ¬ (w.heap.size ≤ k)) (.slice (some ⟨go, 0, none⟩) n cap) xs := Kd.S_mono (Kd.S_bound h) (fun k hk => ⟨hk.1, by have := hk.2.2.1; omega⟩)
  obtain ⟨oki, c, hcl, hM, hcc, hfr, hoki, hH⟩ := Kd.S_elem h2 [] (j : Int) (by omega) (by omega)
  have hs1 : dG.sz = 1 := rfl
  obtain ⟨u, rfl⟩ : ∃ u, c = [u] := List.length_eq_one_iff.1 (hcl.trans hs1)
  have hu := hcc 0 u rfl
  have hf := hfr 0
  rw [hs1, Int.toNat_natCast, Nat.mul_one, Nat.add_zero] at hu
  rw [Int.toNat_natCast] at hM
  obtain ⟨u', e, hR⟩ := hM
  injection e with e
  subst e
  obtain ⟨A, cc, rfl⟩ := Kd.R_slice hR
  refine ⟨A, cc, hu, Kd.R_mono hR (fun k hk => ⟨(hoki k hk).1.1, (hoki k hk).2⟩), (Kd.S_R h).1 go (by simp [Value.ownBlock]), fun w2 v2 ys ho hf2 hat => ?_⟩
  have hb : ∀ k, (Value.slice A (xs.getD j []).length cc).ownBlock = some k → oki k := fun k hk => hR.1 k hk
  have hg : w.grownBy w2 (Value.slice A (xs.getD j []).length cc).ownBlock := ⟨hf2.os, hf2.tape, hf2.output, hf2.size, fun k hk hne => hf2.block k hk (fun e => hne e.symm)⟩
  have hH2 := Kd.H_grown hH hg hb
  have hs2 := hf2.size
  have hne : (Value.slice A (xs.getD j []).length cc).ownBlock ≠ some go := fun e => (hoki go (hb go e)).2 rfl
  have hbk : w2.heap[go]? = w.heap[go]? := hf2.block go hgo hne
  have hcell : ∀ p : Nat, w2.cell? ⟨go, p, none⟩ = w.cell? ⟨go, p, none⟩ := fun p => by simp only [World.cell?, hbk]
  have hfrz : ∀ p : Nat, w2.frozen? ⟨go, p, none⟩ = w.frozen? ⟨go, p, none⟩ := fun p => by simp only [World.frozen?, hbk]
  refine ⟨⟨_, (hcell j).trans hu, (hfrz j).trans (by rw [hs1, Int.toNat_natCast, Nat.mul_one, Nat.add_zero] at hf; exact hf)⟩, ?_⟩
  have hR2 : dI.R 3 w2 base (fun k => oki k ∨ w.heap.size ≤ k) v2 ys := by
    refine ints_R ho (fun k hk => ?_)
    rcases hat with e | ⟨b, e, hbs⟩
    · exact .inl (hb k (by rw [← e]; exact hk))
    · rw [e] at hk
      injection hk with hk
      exact .inr (by omega)
  have hP := Kd.S_seg (okg := fun k => w.heap.size ≤ k) hH2 (by omega) (by omega) (seg := [v2]) (j := 0) (show 0 + 1 ≤ 1 from Nat.le_refl _) (x' := ys) (okp := fun k => oki k ∨ w.heap.size ≤ k)
    ⟨v2, rfl, hR2⟩ (fun k hk => hk) (fun k hk => ⟨hnew k hk, by omega⟩)
  have hP1 := hP.1
  rw [hs1, Int.toNat_natCast, Nat.mul_one, Nat.add_zero] at hP1
  exact hP1
theorem bs_c (A : Option Addr) (c : Nat) (xs : List Int) (x : Int) (w : World) (h : dI.C w A xs.length xs) (hb : xs.length ≤ 1000000) (hs : xs.Pairwise (· ≤ ·)) :
    Calls Try.prog 62 #[.slice A xs.length c, .int .i64 x] w fun e w' => e = .returned (.tuple #[.int .i64 (xs.countP (fun y => decide (y < x)) : Nat), .bool (xs.contains x)]) ∧ ∃ q, w' = w.drewN q := by
  rcases Nat.eq_zero_or_pos xs.length with h0 | h0
  · obtain rfl := List.eq_nil_of_length_eq_zero h0
    refine (Try.slices_BinarySearch_int_empty A c x w).mono ?_
    rintro e w' ⟨rfl, hw⟩
    exact ⟨rfl, 0, by rw [hw]; rfl⟩
  · obtain ⟨b, off, he, _, hc⟩ := C_ints h h0
    subst he
    have := Try.slices_BinarySearch_int b off xs.length c xs x w (Nat.le_refl _) (by omega) hc (by rw [List.take_length]; exact hs)
    rw [List.take_length] at this
    exact this
set_option maxHeartbeats 4000000 in
set_option maxRecDepth 100000 in
theorem graph_With.calls (A0 : Option Addr) (c0 : Nat) (l0 : List (List Int)) (a1 : Int) (a2 : Int) (r : List (List Int)) (w : World) (hr0 : Kd.C (Kd.slice 3 (Kd.int .i64)) w A0 l0.length l0) (hc0 : l0.length ≤ c0) (h : graph_With.f l0 a1 a2 = some r) :
    Calls Try.prog 26 #[.slice A0 l0.length c0, .int .i64 a1, .int .i64 a2] w fun e w' => ∃ v0_ : Value, e = .returned v0_ ∧ Kd.S (Kd.slice 3 (Kd.int .i64)) 32 w' w.heap.size (fun _ => True) v0_ r ∧ Below w.heap.size w w' := by
  have HR0 := Aside0.mk hr0
  have HC0 := Aside0.mk hc0
  have HF : Aside0 (fits l0 = true ∧ r = withE (clean l0) a1 a2) := by
    unfold graph_With.f at h
    split at h
    · exact ⟨⟨by assumption, (Option.some.inj h).symm⟩⟩
    · cases h
  clear hr0 hc0 h
  have HCL' : Aside0 (∀ W, Below w.heap.size w W → Calls Try.prog 16 #[.slice A0 l0.length c0] W fun e w' => ∃ v0_ : Value, e = .returned v0_ ∧ Kd.S (Kd.slice 3 (Kd.int .i64)) 32 w' W.heap.size (fun _ => True) v0_ (clean l0) ∧ Below W.heap.size W w') :=
    ⟨fun W hW => graph_Clean.calls A0 c0 l0 (clean l0) W (Kd.C_below HR0.out hW) HC0.out (by unfold graph_Clean.f; rw [if_pos HF.out.1])⟩
  have HIS : ∀ W, Calls Try.prog 53 #[.slice A0 l0.length c0, .int .i64 a1] W fun e w' => e = .returned (.bool (isN l0.length a1)) ∧ W = w' := fun W => is_c a1 A0 l0.length c0 W
  have HIT : ∀ W, Calls Try.prog 53 #[.slice A0 l0.length c0, .int .i64 a2] W fun e w' => e = .returned (.bool (isN l0.length a2)) ∧ W = w' := fun W => is_c a2 A0 l0.length c0 W
  have hno : ∀ (hx : ¬ (isN l0.length a1 = true ∧ isN l0.length a2 = true)), Aside0 (r = clean l0) := by
    intro hx
    have := HF.out.2
    unfold withE at this
    rw [clean_len, if_neg (fun hh => hx ⟨hh.1, hh.2.1⟩)] at this
    exact ⟨this⟩
  have HNO := Aside0.mk hno
  clear hno
  have CLN := HCL'.out w (Below.refl _ _)
  have CL := Aside0.mk CLN
  clear CLN HCL'
  rcases Bool.eq_false_or_eq_true (isN l0.length a1) with hna | hna
  · rw [hna] at HIS
    rcases Bool.eq_false_or_eq_true (isN l0.length a2) with hnb | hnb
    · rw [hnb] at HIT
      obtain ⟨ha0, ha1⟩ := isN_iff.1 hna
      obtain ⟨row_, erow⟩ : ∃ row_, row_ = (clean l0).getD a1.toNat [] := ⟨_, rfl⟩
      have hmem : row_ ∈ clean l0 := by
        rw [erow, List.getD_eq_getElem?_getD, List.getElem?_eq_getElem (by rw [clean_len]; omega)]
        exact List.getElem_mem _
      have HRW : Aside0 (row_.length ≤ 100000 ∧ row_.Pairwise (· ≤ ·) ∧ row_ = (clean l0).getD a1.toNat []) := by
        refine ⟨clean_small HF.out.1 _ hmem, ?_, erow⟩
        obtain ⟨q, _, e⟩ := List.mem_map.1 hmem
        rw [← e]
        exact (cleanRow_rises _ _).imp (fun h => by omega)
      have HRS : Aside0 ((row_.contains a2 = true → r = clean l0) ∧ (row_.contains a2 = false → r = (clean l0).set a1.toNat (row_.take (row_.countP (fun y => decide (y < a2))) ++ a2 :: row_.drop (row_.countP (fun y => decide (y < a2)))))) := by
        have hr := HF.out.2
        unfold withE at hr
        rw [clean_len, ← erow] at hr
        refine ⟨fun hc => ?_, fun hc => ?_⟩
        · rw [if_neg (fun hh => hh.2.2 (by simpa using hc))] at hr
          exact hr
        · rw [if_pos ⟨hna, hnb, by simpa using hc⟩] at hr
          exact hr
      clear hna hnb hmem HNO erow
      obtain ⟨con, hcon⟩ : ∃ con, con = row_.contains a2 := ⟨_, rfl⟩
      rw [← hcon] at HRS
      have HCON := Aside0.mk hcon
      clear hcon
      cases con with
      | true =>
        have HRT := Aside0.mk (HRS.out.1 rfl)
        have HBS : Aside0 (∀ W A c, dI.C W A row_.length row_ → Calls Try.prog 62 #[.slice A row_.length c, .int .i64 a2] W fun e w' => (∃ kk : Nat, e = .returned (.tuple #[.int .i64 kk, .bool true])) ∧ ∃ q, w' = W.drewN q) :=
          ⟨fun W A c hC => (bs_c A c row_ a2 W hC (by have := HRW.out.1; omega) HRW.out.2.1).mono fun e w' hh => ⟨⟨_, by rw [HCON.out]; exact hh.1⟩, hh.2⟩⟩
        go_enter Try.func26, Try.ntmps26
        go_wp2_with (first | (go_at_call 16; refine CL.out.mono ?_; rintro e w2 ⟨v2, rfl, ho2, hb2⟩; obtain ⟨go, cap, e2, hgo1, hgo2, _⟩ := Kd.S_form ho2 (by rw [clean_len]; omega); rw [clean_len] at e2; subst e2; have HO2 := Aside0.mk ho2; have HB2 := Aside0.mk hb2; have HGO := Aside0.mk (And.intro hgo1 hgo2); (obtain ⟨Au, cu, hcu, hRu, _, hnx⟩ := S_newelem ho2 (fun _ _ => trivial) (j := a1.toNat) (by omega)); rw [← HRW.out.2.2] at hcu hRu hnx; have HRU := Aside0.mk hRu; have HNX := Aside0.mk hnx; clear ho2 hb2 hgo1 hgo2 hRu hnx) | (go_at_call 53; (with_reducible refine (HIS _).mono ?_); rintro e w' ⟨rfl, rfl⟩) | (go_at_call 53; (with_reducible refine (HIT _).mono ?_); rintro e w' ⟨rfl, rfl⟩))
        go_wp2_with (go_at_call 62; refine (HBS.out _ _ _ (Kd.R_reads' HRU.out).2.2).mono ?_; rintro e w3 ⟨⟨kk, rfl⟩, q, rfl⟩)
        go_ret
        refine ⟨_, rfl, ?_, by repeat (first | exact HB2.out | apply pw_below_drewN | apply below_drew1)⟩
        rw [HRT.out]
        exact Kd.S_drewN HO2.out _
      | false =>
        obtain ⟨kk, hkk⟩ : ∃ kk, kk = row_.countP (fun y => decide (y < a2)) := ⟨_, rfl⟩
        rw [← hkk] at HRS
        obtain ⟨ys, hys⟩ : ∃ ys, ys = row_.take kk ++ a2 :: row_.drop kk := ⟨_, rfl⟩
        rw [← hys] at HRS
        have HRT := Aside0.mk (HRS.out.2 rfl)
        have HYS := Aside0.mk hys
        have HBS : Aside0 (∀ W A c, dI.C W A row_.length row_ → Calls Try.prog 62 #[.slice A row_.length c, .int .i64 a2] W fun e w' => e = .returned (.tuple #[.int .i64 kk, .bool false]) ∧ ∃ q, w' = W.drewN q) :=
          ⟨fun W A c hC => (bs_c A c row_ a2 W hC (by have := HRW.out.1; omega) HRW.out.2.1).mono fun e w' hh => ⟨by rw [HCON.out, hkk]; exact hh.1, hh.2⟩⟩
        have HKK : Aside0 (kk ≤ row_.length) := by
          rw [hkk]
          exact ⟨List.countP_le_length⟩
        have hyl : Aside0 (ys.length = row_.length + 1) := by
          have := HKK.out
          refine ⟨?_⟩
          rw [hys]
          simp
          omega
        clear hkk hys
        go_enter Try.func26, Try.ntmps26
        go_wp2_with (first | (go_at_call 16; refine CL.out.mono ?_; rintro e w2 ⟨v2, rfl, ho2, hb2⟩; obtain ⟨go, cap, e2, hgo1, hgo2, _⟩ := Kd.S_form ho2 (by rw [clean_len]; omega); rw [clean_len] at e2; subst e2; have HO2 := Aside0.mk ho2; have HB2 := Aside0.mk hb2; have HGO := Aside0.mk (And.intro hgo1 hgo2); (obtain ⟨Au, cu, hcu, hRu, _, hnx⟩ := S_newelem ho2 (fun _ _ => trivial) (j := a1.toNat) (by omega)); rw [← HRW.out.2.2] at hcu hRu hnx; have HRU := Aside0.mk hRu; have HNX := Aside0.mk hnx; clear ho2 hb2 hgo1 hgo2 hRu hnx) | (go_at_call 53; (with_reducible refine (HIS _).mono ?_); rintro e w' ⟨rfl, rfl⟩) | (go_at_call 53; (with_reducible refine (HIT _).mono ?_); rintro e w' ⟨rfl, rfl⟩))
        go_wp2_with (go_at_call 62; refine (HBS.out _ _ _ (Kd.R_reads' HRU.out).2.2).mono ?_; rintro e w3 ⟨rfl, q, rfl⟩)
        go_wp2_with (go_at_call 63; refine (insert_c _ row_ a2 kk (w.heap.size) (fun k => True ∧ k ≠ go) _ _ (Kd.R_alloc (Kd.R_drewN HRU.out q) _) HKK.out (by have := HRW.out.1; omega) (heap_alloc_new (w2.drewN q) _) (fun e => absurd (show w2.heap.size < w2.heap.size from own_lt (R_ints HRU.out) _ e) (Nat.lt_irrefl _)) (by rw [size_alloc1]; have := HB2.out.size; show w.heap.size ≤ w2.heap.size + 1; omega)).mono ?_; rintro e w4 ⟨v4, rfl, ho4, hf4, hat4⟩; rw [← HYS.out, ← hyl.out] at ho4; (have hf5 := (((Fr.drewN (fun k => (Value.slice Au row_.length cu).ownBlock = some k) w2 q).alloc (.cells #[.int .i64 a2] 3)).trans hf4 (fun _ hh => .inl hh))); (obtain ⟨⟨u5, hu5, hf6⟩, hs5⟩ := HNX.out w4 v4 _ ho4 hf5 (hat4.imp id (fun ⟨b, h1, h2⟩ => ⟨b, h1, by rw [size_alloc1] at h2; exact Nat.le_trans (Nat.le_succ _) h2⟩))); have HS5 := Aside0.mk hs5; have HF5 := Aside0.mk hf5; obtain ⟨A4, c4, rfl⟩ := own_slice ho4; clear ho4 hf4 hat4 hf5 hs5)
        go_ret
        refine ⟨_, rfl, ?_, ?_⟩
        · rw [HRT.out]
          exact HS5.out
        · have h3 := below_fr HB2.out HF5.out (fun k hk => own_base (R_ints HRU.out) k hk) HB2.out.size
          exact h3.setCell (by have := HGO.out.1; show w.heap.size ≤ go; omega) _
    · rw [hnb] at HIT
      have HRS := HNO.out (by rw [hnb]; simp)
      clear hna hnb HNO
      go_enter Try.func26, Try.ntmps26
      go_wp2_with (first | (go_at_call 16; refine CL.out.mono ?_; rintro e w2 ⟨v2, rfl, ho2, hb2⟩; have HO2 := Aside0.mk ho2; have HB2 := Aside0.mk hb2; clear ho2 hb2) | (go_at_call 53; (with_reducible refine (HIS _).mono ?_); rintro e w' ⟨rfl, rfl⟩) | (go_at_call 53; (with_reducible refine (HIT _).mono ?_); rintro e w' ⟨rfl, rfl⟩))
      go_ret
      exact ⟨_, rfl, by rw [HRS.out]; exact HO2.out, HB2.out⟩
  · rw [hna] at HIS
    have HRS := HNO.out (by rw [hna]; simp)
    clear hna HNO
    go_enter Try.func26, Try.ntmps26
    go_wp2_with (first | (go_at_call 16; refine CL.out.mono ?_; rintro e w2 ⟨v2, rfl, ho2, hb2⟩; have HO2 := Aside0.mk ho2; have HB2 := Aside0.mk hb2; clear ho2 hb2) | (go_at_call 53; (with_reducible refine (HIS _).mono ?_); rintro e w' ⟨rfl, rfl⟩))
    go_ret
    exact ⟨_, rfl, by rw [HRS.out]; exact HO2.out, HB2.out⟩
end Go.Proofs.Ytdknhgbjgdmfkaa.P
namespace Go.Proofs.Ytdknhgbjgdmfkaa.P
open Go.RowKit Go.Proofs.YtdknhgbjgdmfkaaW.PrintWords Go.Proofs.YtdknhgbjgdmfkaaW.PrintLast Go.Proofs.YtdknhgbjgdmfkaaW.PrintMore
attribute [local go_sem] max2_int min2_int max_two min_two max_three min_three max_four min_four
set_option linter.unusedVariables false
set_option linter.unusedSimpArgs false
mutual
def bywashlaw12_RankEdge.j0 : Nat → List (List Int) → Int → Int → Bool → Bool → Option (Bool)
 | 0, _, _, _, _, _ => none
 | k + 1, x0, x1, x2, x7, x36 => if x36 = true then (some x7) else ((graph_With.f x0 x1 x2).bind fun t558 => ((graph_Reach.f x0 x2).bind fun t561 => ((rank_Ranks.f k x0).bind fun t564 => ((rank_Ranks.f k t558).bind fun t567 => (if (t561.length : Int) = (x0.length : Int) then (if (t564.length : Int) = (x0.length : Int) then (bywashlaw12_RankEdge.j1 k x0 x1 x2 x7 t558 t561 t564 t567 ((t567.length : Int) != (x0.length : Int))) else (bywashlaw12_RankEdge.j1 k x0 x1 x2 x7 t558 t561 t564 t567 true)) else (bywashlaw12_RankEdge.j1 k x0 x1 x2 x7 t558 t561 t564 t567 true))))))
def bywashlaw12_RankEdge.j1 : Nat → List (List Int) → Int → Int → Bool → List (List Int) → List Bool → List Int → List Int → Bool → Option (Bool)
 | 0, _, _, _, _, _, _, _, _, _ => none
 | k + 1, x0, x1, x2, x7, x8, x9, x10, x11, x67 => if x67 = true then (some false) else (bywashlaw12_RankEdge.l0 k x0 x1 x2 x7 x8 x9 x10 x11 0)
def bywashlaw12_RankEdge.l0 : Nat → List (List Int) → Int → Int → Bool → List (List Int) → List Bool → List Int → List Int → Int → Option (Bool)
 | 0, _, _, _, _, _, _, _, _, _ => none
 | k + 1, x0, x1, x2, x7, x8, x9, x10, x11, x12 => if x12 < (x0.length : Int) then (if 0 ≤ x1 then (if x1 < (x9.length : Int) then (bywashlaw12_RankEdge.j3 k x0 x1 x2 x7 x8 x9 x10 x11 x12 (!(rdOf false x9 x1))) else (none)) else (none)) else (bywashlaw12_RankEdge.j3 k x0 x1 x2 x7 x8 x9 x10 x11 x12 false)
def bywashlaw12_RankEdge.j3 : Nat → List (List Int) → Int → Int → Bool → List (List Int) → List Bool → List Int → List Int → Int → Bool → Option (Bool)
 | 0, _, _, _, _, _, _, _, _, _, _ => none
 | k + 1, x0, x1, x2, x7, x8, x9, x10, x11, x12, x78 => if x78 = true then (if 0 ≤ x12 then (if x12 < (x11.length : Int) then (if x12 < (x10.length : Int) then (if (rd x11 x12) < (rd x10 x12) then (some false) else (bywashlaw12_RankEdge.l0 k x0 x1 x2 x7 x8 x9 x10 x11 (wrap64 (x12 + 1)))) else (none)) else (none)) else (none)) else (if x7 = true then (if 0 ≤ x1 then (if x1 < (x9.length : Int) then (if rdOf false x9 x1 = true then ((rank_Sound.f x8 x10).bind fun t574 => (if t574 = true then ((rank_Sound.f x0 x10).bind fun t575 => (some t575)) else (some true))) else (if 0 ≤ x2 then (if x2 < (x11.length : Int) then (if x1 < (x11.length : Int) then (if (rd x11 x2) ≥ (wrap64 ((rd x11 x1) + 1)) then ((rank_Sound.f x8 x10).bind fun t578 => (if t578 = true then ((rank_Sound.f x0 x10).bind fun t579 => (some t579)) else (some true))) else (some false)) else (none)) else (none)) else (none))) else (none)) else (none)) else (some false))
end
def bywashlaw12_RankEdge.f (k : Nat) (l0 : List (List Int)) (a1 : Int) (a2 : Int) : Option (Bool) := (bywashlaw12_awake.f k).bind fun t556 => ((bywashref10_Few.f k l0).bind fun t557 => (if t557 = true then (if a1 < 0 then (bywashlaw12_RankEdge.j0 k l0 a1 a2 t556 true) else (if a1 ≥ (l0.length : Int) then (bywashlaw12_RankEdge.j0 k l0 a1 a2 t556 true) else (if a2 < 0 then (bywashlaw12_RankEdge.j0 k l0 a1 a2 t556 true) else (bywashlaw12_RankEdge.j0 k l0 a1 a2 t556 (decide (a2 ≥ (l0.length : Int))))))) else (bywashlaw12_RankEdge.j0 k l0 a1 a2 t556 true)))
theorem bywashlaw12_RankEdge.mono_l : ∀ k, (∀ y0 y1 y2 y3 y4, LeO (bywashlaw12_RankEdge.j0 k y0 y1 y2 y3 y4) (bywashlaw12_RankEdge.j0 (k + 1) y0 y1 y2 y3 y4)) ∧ (∀ y0 y1 y2 y3 y4 y5 y6 y7 y8, LeO (bywashlaw12_RankEdge.j1 k y0 y1 y2 y3 y4 y5 y6 y7 y8) (bywashlaw12_RankEdge.j1 (k + 1) y0 y1 y2 y3 y4 y5 y6 y7 y8)) ∧ (∀ y0 y1 y2 y3 y4 y5 y6 y7 y8, LeO (bywashlaw12_RankEdge.l0 k y0 y1 y2 y3 y4 y5 y6 y7 y8) (bywashlaw12_RankEdge.l0 (k + 1) y0 y1 y2 y3 y4 y5 y6 y7 y8)) ∧ (∀ y0 y1 y2 y3 y4 y5 y6 y7 y8 y9, LeO (bywashlaw12_RankEdge.j3 k y0 y1 y2 y3 y4 y5 y6 y7 y8 y9) (bywashlaw12_RankEdge.j3 (k + 1) y0 y1 y2 y3 y4 y5 y6 y7 y8 y9))
 | 0 => ⟨fun _ _ _ _ _ r h => by simp [bywashlaw12_RankEdge.j0] at h, fun _ _ _ _ _ _ _ _ _ r h => by simp [bywashlaw12_RankEdge.j1] at h, fun _ _ _ _ _ _ _ _ _ r h => by simp [bywashlaw12_RankEdge.l0] at h, fun _ _ _ _ _ _ _ _ _ _ r h => by simp [bywashlaw12_RankEdge.j3] at h⟩
 | k + 1 => by
  obtain ⟨ih0, ih1, ih2, ih3⟩ := bywashlaw12_RankEdge.mono_l k
  refine ⟨?_, ?_, ?_, ?_⟩
  ·
   intro y0 y1 y2 y3 y4
   unfold bywashlaw12_RankEdge.j0
   repeat' first
   | (with_reducible exact ih0 _ _ _ _ _)
   | (with_reducible exact ih1 _ _ _ _ _ _ _ _ _)
   | (with_reducible exact ih2 _ _ _ _ _ _ _ _ _)
   | (with_reducible exact ih3 _ _ _ _ _ _ _ _ _ _)
   | (with_reducible exact bywashlaw12_awake.mono _)
   | (with_reducible exact bywashref10_Few.mono _ _)
   | (with_reducible exact rank_Ranks.mono _ _)
   | (with_reducible exact LeO.refl _)
   | (with_reducible exact LeO.none _)
   | (with_reducible refine LeO.ite ?_ ?_)
   | (with_reducible refine LeO.bind ?_ (fun _ => ?_))
   | exact ih0 _ _ _ _ _
   | exact ih1 _ _ _ _ _ _ _ _ _
   | exact ih2 _ _ _ _ _ _ _ _ _
   | exact ih3 _ _ _ _ _ _ _ _ _ _
   | exact bywashlaw12_awake.mono _
   | exact bywashref10_Few.mono _ _
   | exact rank_Ranks.mono _ _
   | exact LeO.none _
   | refine LeO.ite ?_ ?_
   | refine LeO.bind ?_ (fun _ => ?_)
  ·
   intro y0 y1 y2 y3 y4 y5 y6 y7 y8
   unfold bywashlaw12_RankEdge.j1
   repeat' first
   | (with_reducible exact ih0 _ _ _ _ _)
   | (with_reducible exact ih1 _ _ _ _ _ _ _ _ _)
   | (with_reducible exact ih2 _ _ _ _ _ _ _ _ _)
   | (with_reducible exact ih3 _ _ _ _ _ _ _ _ _ _)
   | (with_reducible exact bywashlaw12_awake.mono _)
   | (with_reducible exact bywashref10_Few.mono _ _)
   | (with_reducible exact rank_Ranks.mono _ _)
   | (with_reducible exact LeO.refl _)
   | (with_reducible exact LeO.none _)
   | (with_reducible refine LeO.ite ?_ ?_)
   | (with_reducible refine LeO.bind ?_ (fun _ => ?_))
   | exact ih0 _ _ _ _ _
   | exact ih1 _ _ _ _ _ _ _ _ _
   | exact ih2 _ _ _ _ _ _ _ _ _
   | exact ih3 _ _ _ _ _ _ _ _ _ _
   | exact bywashlaw12_awake.mono _
   | exact bywashref10_Few.mono _ _
   | exact rank_Ranks.mono _ _
   | exact LeO.none _
   | refine LeO.ite ?_ ?_
   | refine LeO.bind ?_ (fun _ => ?_)
  ·
   intro y0 y1 y2 y3 y4 y5 y6 y7 y8
   unfold bywashlaw12_RankEdge.l0
   repeat' first
   | (with_reducible exact ih0 _ _ _ _ _)
   | (with_reducible exact ih1 _ _ _ _ _ _ _ _ _)
   | (with_reducible exact ih2 _ _ _ _ _ _ _ _ _)
   | (with_reducible exact ih3 _ _ _ _ _ _ _ _ _ _)
   | (with_reducible exact bywashlaw12_awake.mono _)
   | (with_reducible exact bywashref10_Few.mono _ _)
   | (with_reducible exact rank_Ranks.mono _ _)
   | (with_reducible exact LeO.refl _)
   | (with_reducible exact LeO.none _)
   | (with_reducible refine LeO.ite ?_ ?_)
   | (with_reducible refine LeO.bind ?_ (fun _ => ?_))
   | exact ih0 _ _ _ _ _
   | exact ih1 _ _ _ _ _ _ _ _ _
   | exact ih2 _ _ _ _ _ _ _ _ _
   | exact ih3 _ _ _ _ _ _ _ _ _ _
   | exact bywashlaw12_awake.mono _
   | exact bywashref10_Few.mono _ _
   | exact rank_Ranks.mono _ _
   | exact LeO.none _
   | refine LeO.ite ?_ ?_
   | refine LeO.bind ?_ (fun _ => ?_)
  ·
   intro y0 y1 y2 y3 y4 y5 y6 y7 y8 y9
   unfold bywashlaw12_RankEdge.j3
   repeat' first
   | (with_reducible exact ih0 _ _ _ _ _)
   | (with_reducible exact ih1 _ _ _ _ _ _ _ _ _)
   | (with_reducible exact ih2 _ _ _ _ _ _ _ _ _)
   | (with_reducible exact ih3 _ _ _ _ _ _ _ _ _ _)
   | (with_reducible exact bywashlaw12_awake.mono _)
   | (with_reducible exact bywashref10_Few.mono _ _)
   | (with_reducible exact rank_Ranks.mono _ _)
   | (with_reducible exact LeO.refl _)
   | (with_reducible exact LeO.none _)
   | (with_reducible refine LeO.ite ?_ ?_)
   | (with_reducible refine LeO.bind ?_ (fun _ => ?_))
   | exact ih0 _ _ _ _ _
   | exact ih1 _ _ _ _ _ _ _ _ _
   | exact ih2 _ _ _ _ _ _ _ _ _
   | exact ih3 _ _ _ _ _ _ _ _ _ _
   | exact bywashlaw12_awake.mono _
   | exact bywashref10_Few.mono _ _
   | exact rank_Ranks.mono _ _
   | exact LeO.none _
   | refine LeO.ite ?_ ?_
   | refine LeO.bind ?_ (fun _ => ?_)
theorem bywashlaw12_RankEdge.mono : ∀ a0 a1 a2 k, LeO (bywashlaw12_RankEdge.f k a0 a1 a2) (bywashlaw12_RankEdge.f (k + 1) a0 a1 a2) := by
 intro a0 a1 a2 k
 obtain ⟨ih0, ih1, ih2, ih3⟩ := bywashlaw12_RankEdge.mono_l k
 unfold bywashlaw12_RankEdge.f
 repeat' first
   | (with_reducible exact ih0 _ _ _ _ _)
   | (with_reducible exact ih1 _ _ _ _ _ _ _ _ _)
   | (with_reducible exact ih2 _ _ _ _ _ _ _ _ _)
   | (with_reducible exact ih3 _ _ _ _ _ _ _ _ _ _)
   | (with_reducible exact bywashlaw12_awake.mono _)
   | (with_reducible exact bywashref10_Few.mono _ _)
   | (with_reducible exact rank_Ranks.mono _ _)
   | (with_reducible exact LeO.refl _)
   | (with_reducible exact LeO.none _)
   | (with_reducible refine LeO.ite ?_ ?_)
   | (with_reducible refine LeO.bind ?_ (fun _ => ?_))
   | exact ih0 _ _ _ _ _
   | exact ih1 _ _ _ _ _ _ _ _ _
   | exact ih2 _ _ _ _ _ _ _ _ _
   | exact ih3 _ _ _ _ _ _ _ _ _ _
   | exact bywashlaw12_awake.mono _
   | exact bywashref10_Few.mono _ _
   | exact rank_Ranks.mono _ _
   | exact LeO.none _
   | refine LeO.ite ?_ ?_
   | refine LeO.bind ?_ (fun _ => ?_)
end Go.Proofs.Ytdknhgbjgdmfkaa.P
namespace Go.Proofs.Ytdknhgbjgdmfkaa.P
open Go.RowKit Go.Proofs.YtdknhgbjgdmfkaaW.PrintWords Go.Proofs.YtdknhgbjgdmfkaaW.PrintLast Go.Proofs.YtdknhgbjgdmfkaaW.PrintMore
attribute [local go_sem] max2_int min2_int max_two min_two max_three min_three max_four min_four
set_option linter.unusedVariables false
set_option linter.unusedSimpArgs false
theorem za_ {α : Type} (l : List α) (i : Nat) (a : α) : l.toArray.setIfInBounds i a = (l.set i a).toArray := List.setIfInBounds_toArray ..
theorem zb_ {α : Type} (l : List α) (a b : α) : (a :: l).set 0 b = b :: l := rfl
theorem zc_ {α : Type} (l : List α) (a b : α) (n : Nat) : (a :: l).set (n + 1) b = a :: l.set n b := rfl
def mm (l : List (Nat × Bool)) : Array Bool := (l.flatMap fun p => List.replicate p.1 p.2).toArray
def bywashlaw12_RankEdge.T13 : Bool × List (List Nat × List Nat) := (true, [([], []), ([], []), ([0, 1], [0, 1]), ([2], [2]), ([], []), ([], []), ([4, 5], [4, 5]), ([6], [6]), ([3, 7], [3, 7])])
def bywashlaw12_RankEdge.B13 : List Nat := [0, 0, 3, 7, 0, 0, 48, 112, 255]
theorem bywashlaw12_RankEdge.tab13 : rtab .any (opsOf Try.f12 13) = bywashlaw12_RankEdge.T13 := by kernel_rfl
theorem bywashlaw12_RankEdge.bits13 : waitsOk bywashlaw12_RankEdge.T13.2 bywashlaw12_RankEdge.B13 = true := by kernel_rfl
def bywashlaw12_RankEdge.T15 : Bool × List (List Nat × List Nat) := (true, [([], []), ([0], [0]), ([1], [1]), ([1], [1]), ([2, 3, 1], [1, 2, 3]), ([4, 1], [1, 4]), ([5, 1, 1], [1, 5]), ([6], [6]), ([6], [6]), ([7, 8, 6], [6, 7, 8]), ([9, 6], [6, 9]), ([6], [6]), ([6], [6]), ([11, 12, 6], [6, 11, 12]), ([13, 6], [6, 13]), ([14, 6], [6, 14]), ([10, 15, 6], [6, 10, 15]), ([6, 16, 1], [1, 6, 16]), ([1, 17], [1, 17]), ([18, 6], [18]), ([19], [19]), ([19], [19]), ([20, 21, 19, 19], [19, 20, 21]), ([22, 19], [19, 22]), ([23, 22, 19], [19, 23]), ([24], [24]), ([24], [24]), ([25, 26, 24, 24], [24, 25, 26]), ([24, 27, 19], [19, 24, 27]), ([19, 28], [19, 28]), ([29, 27, 0, 1, 2, 3, 4, 5, 6, 7, 8, 9, 10, 11, 12, 13, 14, 15, 16, 17, 18, 19, 20, 21, 22, 23, 24, 25, 26, 27, 28, 29], [29])])
def bywashlaw12_RankEdge.B15 : List Nat := [0, 1, 3, 3, 15, 31, 63, 127, 127, 511, 1023, 127, 127, 6271, 14463, 30847, 65535, 131071, 262143, 524287, 1048575, 1048575, 4194303, 8388607, 16777215, 33554431, 33554431, 134217727, 268435455, 536870911, 1073741823]
theorem bywashlaw12_RankEdge.tab15 : rtab .any (opsOf Try.f12 15) = bywashlaw12_RankEdge.T15 := by kernel_rfl
theorem bywashlaw12_RankEdge.bits15 : waitsOk bywashlaw12_RankEdge.T15.2 bywashlaw12_RankEdge.B15 = true := by kernel_rfl
set_option maxHeartbeats 8000000 in
set_option maxRecDepth 100000 in
theorem RankEdge_t (k : Nat) (A0 : Option Addr) (c0 : Nat) (l0 : List (List Int)) (a1 : Int) (a2 : Int) (r : Bool) (w : World) (hr0 : Kd.C (Kd.slice 3 (Kd.int .i64)) w A0 l0.length l0) (hc0 : l0.length ≤ c0) (hrt : r = true) (h : bywashlaw12_RankEdge.f k l0 a1 a2 = some r) :
  Calls Try.prog 12 #[.slice A0 l0.length c0, .int .i64 a1, .int .i64 a2] w fun e w' => e = .returned (.bool r) ∧ Below w.heap.size w w' := by
 have HRT := Aside0.mk hrt
 clear hrt
 have HR0 := Aside0.mk hr0
 have HC0 := Aside0.mk hc0
 clear hr0 hc0
 have HB := Aside0.mk (Below.refl w.heap.size w)
 have H : ((bywashlaw12_awake.f k).bind fun t556 => ((bywashref10_Few.f k l0).bind fun t557 => (if t557 = true then (if a1 < 0 then (bywashlaw12_RankEdge.j0 k l0 a1 a2 t556 true) else (if a1 ≥ (l0.length : Int) then (bywashlaw12_RankEdge.j0 k l0 a1 a2 t556 true) else (if a2 < 0 then (bywashlaw12_RankEdge.j0 k l0 a1 a2 t556 true) else (bywashlaw12_RankEdge.j0 k l0 a1 a2 t556 (decide (a2 ≥ (l0.length : Int))))))) else (bywashlaw12_RankEdge.j0 k l0 a1 a2 t556 true)))) = some r := h
 clear h
 replace H := Option.bind_eq_some_iff.mp H
 obtain ⟨t556, A40, H⟩ := H
 replace H : ((bywashref10_Few.f k l0).bind fun t557 => (if t557 = true then (if a1 < 0 then (bywashlaw12_RankEdge.j0 k l0 a1 a2 t556 true) else (if a1 ≥ (l0.length : Int) then (bywashlaw12_RankEdge.j0 k l0 a1 a2 t556 true) else (if a2 < 0 then (bywashlaw12_RankEdge.j0 k l0 a1 a2 t556 true) else (bywashlaw12_RankEdge.j0 k l0 a1 a2 t556 (decide (a2 ≥ (l0.length : Int))))))) else (bywashlaw12_RankEdge.j0 k l0 a1 a2 t556 true))) = some r := H
 have A4 := Aside0.mk A40
 clear A40
 have HC5 := Aside0.mk H
 clear H
 go_enter Try.func12, Try.ntmps12
 go_upto_region 2 with (first | ((with_reducible refine gate_callee (f := 44) rfl ?_); refine goesL_ (some 13) rfl rfl Try.func44 (by kernel_rfl) rfl #[] rfl (by (try simp only [List.map_toArray, List.map_cons, List.map_nil]); first | done | rfl | (simp only [List.length_drop, List.length_take]; rfl)) ?_; (with_reducible refine (bywashlaw12_awake.calls k  t556 _ A4.out).mono ?_); rintro e w6 ⟨rfl, hb⟩; refine ⟨_, rfl, ?_⟩; have n0_ := Aside0.mk (below_step (by repeat (first | (with_reducible first | exact HB.out | apply below_alloc | apply pw_below_drewN | apply below_drew1) | exact HB.out)) hb); clear HB; have HB := n0_; clear n0_; (try clear hb); (try clear hb2); (try clear hk); (try clear hi)))
 (try simp only [Act.put, za_, zb_, zc_])
 go_cut [36] (fun v36 wc => ∃ (kq : Nat) (x36_4 : Bool), v36 = .bool x36_4 ∧ Aside0 (bywashlaw12_RankEdge.j0 kq l0 a1 a2 t556 x36_4 = some r) ∧ Aside0 (kq ≤ k) ∧ Aside0 (Below w.heap.size w wc))
 case first =>
  have H := HC5.out
  clear HC5
  replace H := Option.bind_eq_some_iff.mp H
  obtain ⟨t557, A70, H⟩ := H
  replace H : (if t557 = true then (if a1 < 0 then (bywashlaw12_RankEdge.j0 k l0 a1 a2 t556 true) else (if a1 ≥ (l0.length : Int) then (bywashlaw12_RankEdge.j0 k l0 a1 a2 t556 true) else (if a2 < 0 then (bywashlaw12_RankEdge.j0 k l0 a1 a2 t556 true) else (bywashlaw12_RankEdge.j0 k l0 a1 a2 t556 (decide (a2 ≥ (l0.length : Int))))))) else (bywashlaw12_RankEdge.j0 k l0 a1 a2 t556 true)) = some r := H
  have A7 := Aside0.mk A70
  clear A70
  by_cases c8 : t557 = true
  ·
   subst c8
   have H1 : (if a1 < 0 then (bywashlaw12_RankEdge.j0 k l0 a1 a2 t556 true) else (if a1 ≥ (l0.length : Int) then (bywashlaw12_RankEdge.j0 k l0 a1 a2 t556 true) else (if a2 < 0 then (bywashlaw12_RankEdge.j0 k l0 a1 a2 t556 true) else (bywashlaw12_RankEdge.j0 k l0 a1 a2 t556 (decide (a2 ≥ (l0.length : Int))))))) = some r := by rw [if_pos rfl] at H; exact H
   clear H
   have H := H1
   clear H1
   by_cases c9 : a1 < 0
   ·
    rw [if_pos c9] at H
    have c9b0 : decide (a1 < 0) = true := decide_eq_true c9
    clear c9
    (first | rw [c9b0] | (simp only [i64_w, i32_w]; rw [c9b0]) | skip)
    have H' := Aside0.mk H
    clear H
    go_wp2_with (first | ((with_reducible refine gate_callee (f := 14) rfl ?_); refine goesL_ (some 15) rfl rfl Try.func14 (by kernel_rfl) rfl #[.slice A0 l0.length c0] rfl (by (try simp only [List.map_toArray, List.map_cons, List.map_nil]); first | done | rfl | (simp only [List.length_drop, List.length_take]; rfl)) ?_; (with_reducible refine (bywashref10_Few.calls k _ _ l0 true _ ?side1 ?side2 A7.out).mono ?_); (case side1 => repeat (first | exact (Kd.C_below HR0.out HB.out) | (with_reducible refine Kd.C_alloc ?_ _) | (with_reducible refine Kd.C_drewN ?_ _) | (with_reducible refine Kd.C_drew ?_))); (case side2 => exact HC0.out); rintro e w' ⟨rfl, ⟨nd, rfl⟩⟩; refine ⟨_, rfl, ?_⟩))
    go_meet
    case rel => exact ⟨_, (true), (by first | rfl | (simp; done) | (simp [*]; done)), H', ⟨by first | omega | exact Nat.le_refl _⟩, ⟨by repeat (first | (with_reducible first | exact HB.out | apply below_alloc | apply pw_below_drewN | apply below_drew1) | exact HB.out)⟩⟩
   ·
    rw [if_neg c9] at H
    have c9b0 : decide (a1 < 0) = false := decide_eq_false c9
    clear c9
    (first | rw [c9b0] | (simp only [i64_w, i32_w]; rw [c9b0]) | skip)
    by_cases c10 : a1 ≥ (l0.length : Int)
    ·
     rw [if_pos c10] at H
     have c10b0 : decide ((l0.length : Int) ≤ a1) = true := decide_eq_true c10
     clear c10
     have H' := Aside0.mk H
     clear H
     go_wp2_with (first | ((with_reducible refine gate_callee (f := 14) rfl ?_); refine goesL_ (some 15) rfl rfl Try.func14 (by kernel_rfl) rfl #[.slice A0 l0.length c0] rfl (by (try simp only [List.map_toArray, List.map_cons, List.map_nil]); first | done | rfl | (simp only [List.length_drop, List.length_take]; rfl)) ?_; (with_reducible refine (bywashref10_Few.calls k _ _ l0 true _ ?side1 ?side2 A7.out).mono ?_); (case side1 => repeat (first | exact (Kd.C_below HR0.out HB.out) | (with_reducible refine Kd.C_alloc ?_ _) | (with_reducible refine Kd.C_drewN ?_ _) | (with_reducible refine Kd.C_drew ?_))); (case side2 => exact HC0.out); rintro e w' ⟨rfl, ⟨nd, rfl⟩⟩; refine ⟨_, rfl, ?_⟩))
     go_meet
     case rel => exact ⟨_, (true), (by first | rfl | (simp; done) | (simp [*]; done)), H', ⟨by first | omega | exact Nat.le_refl _⟩, ⟨by repeat (first | (with_reducible first | exact HB.out | apply below_alloc | apply pw_below_drewN | apply below_drew1) | exact HB.out)⟩⟩
    ·
     rw [if_neg c10] at H
     have c10b0 : decide ((l0.length : Int) ≤ a1) = false := decide_eq_false c10
     clear c10
     by_cases c11 : a2 < 0
     ·
      rw [if_pos c11] at H
      have c11b0 : decide (a2 < 0) = true := decide_eq_true c11
      clear c11
      have H' := Aside0.mk H
      clear H
      go_wp2_with (first | ((with_reducible refine gate_callee (f := 14) rfl ?_); refine goesL_ (some 15) rfl rfl Try.func14 (by kernel_rfl) rfl #[.slice A0 l0.length c0] rfl (by (try simp only [List.map_toArray, List.map_cons, List.map_nil]); first | done | rfl | (simp only [List.length_drop, List.length_take]; rfl)) ?_; (with_reducible refine (bywashref10_Few.calls k _ _ l0 true _ ?side1 ?side2 A7.out).mono ?_); (case side1 => repeat (first | exact (Kd.C_below HR0.out HB.out) | (with_reducible refine Kd.C_alloc ?_ _) | (with_reducible refine Kd.C_drewN ?_ _) | (with_reducible refine Kd.C_drew ?_))); (case side2 => exact HC0.out); rintro e w' ⟨rfl, ⟨nd, rfl⟩⟩; refine ⟨_, rfl, ?_⟩))
      go_meet
      case rel => exact ⟨_, (true), (by first | rfl | (simp; done) | (simp [*]; done)), H', ⟨by first | omega | exact Nat.le_refl _⟩, ⟨by repeat (first | (with_reducible first | exact HB.out | apply below_alloc | apply pw_below_drewN | apply below_drew1) | exact HB.out)⟩⟩
     ·
      rw [if_neg c11] at H
      have c11b0 : decide (a2 < 0) = false := decide_eq_false c11
      clear c11
      have H' := Aside0.mk H
      clear H
      go_wp2_with (first | ((with_reducible refine gate_callee (f := 14) rfl ?_); refine goesL_ (some 15) rfl rfl Try.func14 (by kernel_rfl) rfl #[.slice A0 l0.length c0] rfl (by (try simp only [List.map_toArray, List.map_cons, List.map_nil]); first | done | rfl | (simp only [List.length_drop, List.length_take]; rfl)) ?_; (with_reducible refine (bywashref10_Few.calls k _ _ l0 true _ ?side1 ?side2 A7.out).mono ?_); (case side1 => repeat (first | exact (Kd.C_below HR0.out HB.out) | (with_reducible refine Kd.C_alloc ?_ _) | (with_reducible refine Kd.C_drewN ?_ _) | (with_reducible refine Kd.C_drew ?_))); (case side2 => exact HC0.out); rintro e w' ⟨rfl, ⟨nd, rfl⟩⟩; refine ⟨_, rfl, ?_⟩))
      go_meet
      case rel => exact ⟨_, (decide (a2 ≥ (l0.length : Int))), (by first | rfl | (simp; done) | (simp [*]; done)), H', ⟨by first | omega | exact Nat.le_refl _⟩, ⟨by repeat (first | (with_reducible first | exact HB.out | apply below_alloc | apply pw_below_drewN | apply below_drew1) | exact HB.out)⟩⟩
  ·
   replace c8 := Bool.eq_false_iff.mpr c8
   subst c8
   have H1 : (bywashlaw12_RankEdge.j0 k l0 a1 a2 t556 true) = some r := by rw [if_neg (show ¬ (false = true) by decide)] at H; exact H
   clear H
   have H := H1
   clear H1
   have H' := Aside0.mk H
   clear H
   go_wp2_with (first | ((with_reducible refine gate_callee (f := 14) rfl ?_); refine goesL_ (some 15) rfl rfl Try.func14 (by kernel_rfl) rfl #[.slice A0 l0.length c0] rfl (by (try simp only [List.map_toArray, List.map_cons, List.map_nil]); first | done | rfl | (simp only [List.length_drop, List.length_take]; rfl)) ?_; (with_reducible refine (bywashref10_Few.calls k _ _ l0 false _ ?side1 ?side2 A7.out).mono ?_); (case side1 => repeat (first | exact (Kd.C_below HR0.out HB.out) | (with_reducible refine Kd.C_alloc ?_ _) | (with_reducible refine Kd.C_drewN ?_ _) | (with_reducible refine Kd.C_drew ?_))); (case side2 => exact HC0.out); rintro e w' ⟨rfl, ⟨nd, rfl⟩⟩; refine ⟨_, rfl, ?_⟩))
   go_meet
   case rel => exact ⟨_, (true), (by first | rfl | (simp; done) | (simp [*]; done)), H', ⟨by first | omega | exact Nat.le_refl _⟩, ⟨by repeat (first | (with_reducible first | exact HB.out | apply below_alloc | apply pw_below_drewN | apply below_drew1) | exact HB.out)⟩⟩
 case rest =>
  clear HC5
  try clear c1
  try clear p2
  try clear c4
  try clear c8
  try clear c9
  try clear c9b0
  try clear c10
  try clear c10b0
  try clear c11
  try clear c11b0
  obtain ⟨kq, x36_4, rfl, HA, HJ4, HB⟩ := hcut
  cases kq with
  | zero => exact absurd HA.out (by simp [bywashlaw12_RankEdge.j0])
  | succ kj4 =>
   have H := HA.out
   clear HA
   simp only [bywashlaw12_RankEdge.j0] at H
   by_cases c12 : x36_4 = true
   ·
    subst c12
    have H1 : (some t556) = some r := by rw [if_pos rfl] at H; exact H
    clear H
    have H := H1
    clear H1
    obtain rfl := Option.some.inj H
    go_wp2
    go_ret
    exact ⟨by first | rfl | (simp [errW_none, errW_some] <;> rfl) | (simp [*, errW_none, errW_some] <;> rfl) | (exfalso; (try simp_all); (try omega); done), by repeat (first | (with_reducible first | exact HB.out | apply below_alloc | apply pw_below_drewN | apply below_drew1) | exact HB.out)⟩
   ·
    replace c12 := Bool.eq_false_iff.mpr c12
    subst c12
    have H1 : ((graph_With.f l0 a1 a2).bind fun t558 => ((graph_Reach.f l0 a2).bind fun t561 => ((rank_Ranks.f kj4 l0).bind fun t564 => ((rank_Ranks.f kj4 t558).bind fun t567 => (if (t561.length : Int) = (l0.length : Int) then (if (t564.length : Int) = (l0.length : Int) then (bywashlaw12_RankEdge.j1 kj4 l0 a1 a2 t556 t558 t561 t564 t567 ((t567.length : Int) != (l0.length : Int))) else (bywashlaw12_RankEdge.j1 kj4 l0 a1 a2 t556 t558 t561 t564 t567 true)) else (bywashlaw12_RankEdge.j1 kj4 l0 a1 a2 t556 t558 t561 t564 t567 true)))))) = some r := by rw [if_neg (show ¬ (false = true) by decide)] at H; exact H
    clear H
    have H := H1
    clear H1
    replace H := Option.bind_eq_some_iff.mp H
    obtain ⟨t558, A130, H⟩ := H
    replace H : ((graph_Reach.f l0 a2).bind fun t561 => ((rank_Ranks.f kj4 l0).bind fun t564 => ((rank_Ranks.f kj4 t558).bind fun t567 => (if (t561.length : Int) = (l0.length : Int) then (if (t564.length : Int) = (l0.length : Int) then (bywashlaw12_RankEdge.j1 kj4 l0 a1 a2 t556 t558 t561 t564 t567 ((t567.length : Int) != (l0.length : Int))) else (bywashlaw12_RankEdge.j1 kj4 l0 a1 a2 t556 t558 t561 t564 t567 true)) else (bywashlaw12_RankEdge.j1 kj4 l0 a1 a2 t556 t558 t561 t564 t567 true))))) = some r := H
    have A13 := Aside0.mk A130
    clear A130
    replace H := Option.bind_eq_some_iff.mp H
    obtain ⟨t561, A140, H⟩ := H
    replace H : ((rank_Ranks.f kj4 l0).bind fun t564 => ((rank_Ranks.f kj4 t558).bind fun t567 => (if (t561.length : Int) = (l0.length : Int) then (if (t564.length : Int) = (l0.length : Int) then (bywashlaw12_RankEdge.j1 kj4 l0 a1 a2 t556 t558 t561 t564 t567 ((t567.length : Int) != (l0.length : Int))) else (bywashlaw12_RankEdge.j1 kj4 l0 a1 a2 t556 t558 t561 t564 t567 true)) else (bywashlaw12_RankEdge.j1 kj4 l0 a1 a2 t556 t558 t561 t564 t567 true)))) = some r := H
    have A14 := Aside0.mk A140
    clear A140
    replace H := Option.bind_eq_some_iff.mp H
    obtain ⟨t564, A150, H⟩ := H
    replace H : ((rank_Ranks.f kj4 t558).bind fun t567 => (if (t561.length : Int) = (l0.length : Int) then (if (t564.length : Int) = (l0.length : Int) then (bywashlaw12_RankEdge.j1 kj4 l0 a1 a2 t556 t558 t561 t564 t567 ((t567.length : Int) != (l0.length : Int))) else (bywashlaw12_RankEdge.j1 kj4 l0 a1 a2 t556 t558 t561 t564 t567 true)) else (bywashlaw12_RankEdge.j1 kj4 l0 a1 a2 t556 t558 t561 t564 t567 true))) = some r := H
    have A15 := Aside0.mk A150
    clear A150
    replace H := Option.bind_eq_some_iff.mp H
    obtain ⟨t567, A160, H⟩ := H
    replace H : (if (t561.length : Int) = (l0.length : Int) then (if (t564.length : Int) = (l0.length : Int) then (bywashlaw12_RankEdge.j1 kj4 l0 a1 a2 t556 t558 t561 t564 t567 ((t567.length : Int) != (l0.length : Int))) else (bywashlaw12_RankEdge.j1 kj4 l0 a1 a2 t556 t558 t561 t564 t567 true)) else (bywashlaw12_RankEdge.j1 kj4 l0 a1 a2 t556 t558 t561 t564 t567 true)) = some r := H
    have A16 := Aside0.mk A160
    clear A160
    have HC17 := Aside0.mk H
    clear H
    go_upto_region 8 with (first | ((with_reducible refine gate_callee (f := 26) rfl ?_); refine goesL_ (some 41) rfl rfl Try.func26 (by kernel_rfl) rfl #[.slice A0 l0.length c0, .int .i64 a1, .int .i64 a2] rfl (by (try simp only [List.map_toArray, List.map_cons, List.map_nil]); first | done | rfl | (simp only [List.length_drop, List.length_take]; rfl)) ?_; (with_reducible refine (graph_With.calls _ _ l0 a1 a2 t558 _ ?side1 ?side2 A13.out).mono ?_); (case side1 => repeat (first | exact (Kd.C_below HR0.out HB.out) | (with_reducible refine Kd.C_alloc ?_ _) | (with_reducible refine Kd.C_drewN ?_ _) | (with_reducible refine Kd.C_drew ?_))); (case side2 => exact HC0.out); rintro e w18 ⟨v559, rfl, ho0, hb⟩; refine ⟨_, rfl, ?_⟩; have n0_ := Aside0.mk (Kd.S_lower ho0 (below_size (by repeat (first | (with_reducible first | exact HB.out | apply below_alloc | apply pw_below_drewN | apply below_drew1) | exact HB.out)))); have n1_ := Aside0.mk (below_step (by repeat (first | (with_reducible first | exact HB.out | apply below_alloc | apply pw_below_drewN | apply below_drew1) | exact HB.out)) hb); clear HB; have HO560 := n0_; have HB := n1_; clear n0_ n1_; (try clear hb); (try clear hb2); (try clear hk); (try clear hi); (try clear ho0)) | ((with_reducible refine gate_callee (f := 21) rfl ?_); refine goesL_ (some 44) rfl rfl Try.func21 (by kernel_rfl) rfl #[.slice A0 l0.length c0, .int .i64 a2] rfl (by (try simp only [List.map_toArray, List.map_cons, List.map_nil]); first | done | rfl | (simp only [List.length_drop, List.length_take]; rfl)) ?_; (with_reducible refine (graph_Reach.calls _ _ l0 a2 t561 _ ?side1 ?side2 A14.out).mono ?_); (case side1 => repeat (first | exact (Kd.C_below HR0.out HB.out) | (with_reducible refine Kd.C_alloc ?_ _) | (with_reducible refine Kd.C_drewN ?_ _) | (with_reducible refine Kd.C_drew ?_))); (case side2 => exact HC0.out); rintro e w19 ⟨v562, rfl, ho0, hb⟩; refine ⟨_, rfl, ?_⟩; have n0_ := Aside0.mk (Kd.S_below (by (with_reducible repeat (first | apply Kd.S_alloc | apply Kd.S_drewN | apply Kd.S_drew)); exact HO560.out) hb); have n1_ := Aside0.mk (Kd.R_lower ho0 (below_size (by repeat (first | (with_reducible first | exact HB.out | apply below_alloc | apply pw_below_drewN | apply below_drew1) | exact HB.out)))); have n2_ := Aside0.mk (below_step (by repeat (first | (with_reducible first | exact HB.out | apply below_alloc | apply pw_below_drewN | apply below_drew1) | exact HB.out)) hb); clear HO560; clear HB; have HO560 := n0_; have HO563 := n1_; have HB := n2_; clear n0_ n1_ n2_; (try clear hb); (try clear hb2); (try clear hk); (try clear hi); (try clear ho0)) | ((with_reducible refine gate_callee (f := 46) rfl ?_); refine goesL_ (some 46) rfl rfl Try.func46 (by kernel_rfl) rfl #[.slice A0 l0.length c0] rfl (by (try simp only [List.map_toArray, List.map_cons, List.map_nil]); first | done | rfl | (simp only [List.length_drop, List.length_take]; rfl)) ?_; (with_reducible refine (rank_Ranks.calls kj4 _ _ l0 t564 _ ?side1 ?side2 A15.out).mono ?_); (case side1 => repeat (first | exact (Kd.C_below HR0.out HB.out) | (with_reducible refine Kd.C_alloc ?_ _) | (with_reducible refine Kd.C_drewN ?_ _) | (with_reducible refine Kd.C_drew ?_))); (case side2 => exact HC0.out); rintro e w20 ⟨v565, rfl, ho0, hb⟩; refine ⟨_, rfl, ?_⟩; have n0_ := Aside0.mk (Kd.S_elder' (by (with_reducible repeat (first | apply Kd.S_alloc | apply Kd.S_drewN | apply Kd.S_drew)); exact HO560.out) (Kd.R_base ho0) hb); have n1_ := Aside0.mk (Kd.R_below (by (with_reducible repeat (first | apply Kd.R_alloc | apply Kd.R_drewN | apply Kd.R_drew)); exact HO563.out) hb); have n2_ := Aside0.mk (Kd.R_lower ho0 (below_size (by repeat (first | (with_reducible first | exact HB.out | apply below_alloc | apply pw_below_drewN | apply below_drew1) | exact HB.out)))); have n3_ := Aside0.mk (below_step (by repeat (first | (with_reducible first | exact HB.out | apply below_alloc | apply pw_below_drewN | apply below_drew1) | exact HB.out)) hb); clear HO560; clear HO563; clear HB; have HO560 := n0_; have HO563 := n1_; have HO566 := n2_; have HB := n3_; clear n0_ n1_ n2_ n3_; (try clear hb); (try clear hb2); (try clear hk); (try clear hi); (try clear ho0); obtain ⟨Ao21, co21, eo21⟩ := Kd.S_slice HO560.out; subst eo21) | ((with_reducible refine gate_callee (f := 46) rfl ?_); refine goesL_ (some 48) rfl rfl Try.func46 (by kernel_rfl) rfl #[.slice Ao21 t558.length co21] rfl (by (try simp only [List.map_toArray, List.map_cons, List.map_nil]); first | done | rfl | (simp only [List.length_drop, List.length_take]; rfl)) ?_; (with_reducible refine (rank_Ranks.calls kj4 _ _ t558 t567 _ ?side1 ?side2 A16.out).mono ?_); (case side1 => repeat (first | exact (Kd.S_reads' HO560.out).2.2 | (with_reducible refine Kd.C_alloc ?_ _) | (with_reducible refine Kd.C_drewN ?_ _) | (with_reducible refine Kd.C_drew ?_))); (case side2 => exact (Kd.S_reads' HO560.out).2.1); rintro e w22 ⟨v568, rfl, ho0, hb⟩; refine ⟨_, rfl, ?_⟩; have n0_ := Aside0.mk (Kd.S_elder' (by (with_reducible repeat (first | apply Kd.S_alloc | apply Kd.S_drewN | apply Kd.S_drew)); exact HO560.out) (Kd.R_base ho0) hb); have n1_ := Aside0.mk (Kd.R_below (by (with_reducible repeat (first | apply Kd.R_alloc | apply Kd.R_drewN | apply Kd.R_drew)); exact HO563.out) hb); have n2_ := Aside0.mk (Kd.R_elder' (by (with_reducible repeat (first | apply Kd.R_alloc | apply Kd.R_drewN | apply Kd.R_drew)); exact HO566.out) (Kd.R_base ho0) hb); have n3_ := Aside0.mk (Kd.R_lower (Kd.R_new' ho0 (Kd.R_lt (by (with_reducible repeat (first | apply Kd.R_alloc | apply Kd.R_drewN | apply Kd.R_drew)); exact HO566.out))) (below_size (by repeat (first | (with_reducible first | exact HB.out | apply below_alloc | apply pw_below_drewN | apply below_drew1) | exact HB.out)))); have n4_ := Aside0.mk (below_step (by repeat (first | (with_reducible first | exact HB.out | apply below_alloc | apply pw_below_drewN | apply below_drew1) | exact HB.out)) hb); clear HO560; clear HO563; clear HO566; clear HB; have HO560 := n0_; have HO563 := n1_; have HO566 := n2_; have HO569 := n3_; have HB := n4_; clear n0_ n1_ n2_ n3_ n4_; (try clear hb); (try clear hb2); (try clear hk); (try clear hi); (try clear ho0)))
    (try simp only [Act.put, za_, zb_, zc_])
    go_cut [67] (fun v67 wc => ∃ (kq : Nat) (x67_16 : Bool), v67 = .bool x67_16 ∧ Aside0 (bywashlaw12_RankEdge.j1 kq l0 a1 a2 t556 t558 t561 t564 t567 x67_16 = some r) ∧ Aside0 (kq ≤ kj4) ∧ Aside0 (Kd.S (Kd.slice 3 (Kd.int .i64)) 32 wc w.heap.size (fun k_ => some k_ ≠ (v565 : Value).ownBlock ∧ some k_ ≠ (v568 : Value).ownBlock) (.slice Ao21 t558.length co21) t558) ∧ Aside0 (Kd.R Kd.bool 4 wc w.heap.size (fun _ => True) v562 t561) ∧ Aside0 (Kd.R (Kd.int .i64) 3 wc w.heap.size (fun k_ => some k_ ≠ (v568 : Value).ownBlock) v565 t564) ∧ Aside0 (Kd.R (Kd.int .i64) 3 wc w.heap.size (fun k_ => some k_ ≠ (v565 : Value).ownBlock) v568 t567) ∧ Aside0 (Below w.heap.size w wc))
    case first =>
     have H := HC17.out
     clear HC17
     by_cases c23 : (t561.length : Int) = (l0.length : Int)
     ·
      rw [if_pos c23] at H
      have c23b0 : ((t561.length : Int) == (l0.length : Int)) = true := beq_iff_eq.mpr c23
      have c23b1 : ((t561.length : Int) != (l0.length : Int)) = false := bne_eq_false_iff_eq.mpr c23
      have c23b2 : (t561.length == l0.length) = true := by first | simpa using c23 | (simp at c23 ⊢; omega)
      clear c23
      (first | rw [c23b0] | (simp only [i64_w, i32_w]; rw [c23b0]) | skip)
      by_cases c24 : (t564.length : Int) = (l0.length : Int)
      ·
       rw [if_pos c24] at H
       have c24b0 : ((t564.length : Int) == (l0.length : Int)) = true := beq_iff_eq.mpr c24
       have c24b1 : ((t564.length : Int) != (l0.length : Int)) = false := bne_eq_false_iff_eq.mpr c24
       have c24b2 : (t564.length == l0.length) = true := by first | simpa using c24 | (simp at c24 ⊢; omega)
       clear c24
       have H' := Aside0.mk H
       clear H
       obtain ⟨Ao25, co25, eo25⟩ := Kd.R_slice HO563.out
       subst eo25
       obtain ⟨Ao26, co26, eo26⟩ := Kd.R_slice HO566.out
       subst eo26
       obtain ⟨Ao27, co27, eo27⟩ := Kd.R_slice HO569.out
       subst eo27
       go_wp2
       go_meet
       case rel => exact ⟨_, (((t567.length : Int) != (l0.length : Int))), (by first | rfl | (simp; done) | (simp [*]; done)), H', ⟨by have := HJ4.out; first | omega | exact Nat.le_refl _⟩, ⟨by (with_reducible repeat (first | apply Kd.S_alloc | apply Kd.S_drewN | apply Kd.S_drew)); exact Kd.S_mono HO560.out (fun _ hk => ⟨hk.1.2, hk.2⟩)⟩, ⟨by (with_reducible repeat (first | apply Kd.R_alloc | apply Kd.R_drewN | apply Kd.R_drew)); exact HO563.out⟩, ⟨by (with_reducible repeat (first | apply Kd.R_alloc | apply Kd.R_drewN | apply Kd.R_drew)); exact Kd.R_mono HO566.out (fun _ hk => hk.2)⟩, ⟨by (with_reducible repeat (first | apply Kd.R_alloc | apply Kd.R_drewN | apply Kd.R_drew)); exact Kd.R_mono HO569.out (fun _ hk => hk.2)⟩, ⟨by repeat (first | (with_reducible first | exact HB.out | apply below_alloc | apply pw_below_drewN | apply below_drew1) | exact HB.out)⟩⟩
      ·
       rw [if_neg c24] at H
       have c24b0 : ((t564.length : Int) == (l0.length : Int)) = false := beq_eq_false_iff_ne.mpr c24
       have c24b1 : ((t564.length : Int) != (l0.length : Int)) = true := bne_iff_ne.mpr c24
       have c24b2 : (t564.length == l0.length) = false := by first | simpa using c24 | (simp at c24 ⊢; omega)
       have H' := Aside0.mk H
       clear H
       obtain ⟨Ao28, co28, eo28⟩ := Kd.R_slice HO563.out
       subst eo28
       obtain ⟨Ao29, co29, eo29⟩ := Kd.R_slice HO566.out
       subst eo29
       go_wp2
       go_meet
       case rel => exact ⟨_, (true), (by first | rfl | (simp; done) | (simp [*]; done)), H', ⟨by have := HJ4.out; first | omega | exact Nat.le_refl _⟩, ⟨by (with_reducible repeat (first | apply Kd.S_alloc | apply Kd.S_drewN | apply Kd.S_drew)); exact Kd.S_mono HO560.out (fun _ hk => ⟨hk.1.2, hk.2⟩)⟩, ⟨by (with_reducible repeat (first | apply Kd.R_alloc | apply Kd.R_drewN | apply Kd.R_drew)); exact HO563.out⟩, ⟨by (with_reducible repeat (first | apply Kd.R_alloc | apply Kd.R_drewN | apply Kd.R_drew)); exact Kd.R_mono HO566.out (fun _ hk => hk.2)⟩, ⟨by (with_reducible repeat (first | apply Kd.R_alloc | apply Kd.R_drewN | apply Kd.R_drew)); exact Kd.R_mono HO569.out (fun _ hk => hk.2)⟩, ⟨by repeat (first | (with_reducible first | exact HB.out | apply below_alloc | apply pw_below_drewN | apply below_drew1) | exact HB.out)⟩⟩
     ·
      rw [if_neg c23] at H
      have c23b0 : ((t561.length : Int) == (l0.length : Int)) = false := beq_eq_false_iff_ne.mpr c23
      have c23b1 : ((t561.length : Int) != (l0.length : Int)) = true := bne_iff_ne.mpr c23
      have c23b2 : (t561.length == l0.length) = false := by first | simpa using c23 | (simp at c23 ⊢; omega)
      (first | rw [c23b0] | (simp only [i64_w, i32_w]; rw [c23b0]) | skip)
      have H' := Aside0.mk H
      clear H
      obtain ⟨Ao30, co30, eo30⟩ := Kd.R_slice HO563.out
      subst eo30
      go_wp2
      go_meet
      case rel => exact ⟨_, (true), (by first | rfl | (simp; done) | (simp [*]; done)), H', ⟨by have := HJ4.out; first | omega | exact Nat.le_refl _⟩, ⟨by (with_reducible repeat (first | apply Kd.S_alloc | apply Kd.S_drewN | apply Kd.S_drew)); exact Kd.S_mono HO560.out (fun _ hk => ⟨hk.1.2, hk.2⟩)⟩, ⟨by (with_reducible repeat (first | apply Kd.R_alloc | apply Kd.R_drewN | apply Kd.R_drew)); exact HO563.out⟩, ⟨by (with_reducible repeat (first | apply Kd.R_alloc | apply Kd.R_drewN | apply Kd.R_drew)); exact Kd.R_mono HO566.out (fun _ hk => hk.2)⟩, ⟨by (with_reducible repeat (first | apply Kd.R_alloc | apply Kd.R_drewN | apply Kd.R_drew)); exact Kd.R_mono HO569.out (fun _ hk => hk.2)⟩, ⟨by repeat (first | (with_reducible first | exact HB.out | apply below_alloc | apply pw_below_drewN | apply below_drew1) | exact HB.out)⟩⟩
    case rest =>
     clear HC17
     try clear c1
     try clear c2
     try clear p2
     try clear c4
     try clear c8
     try clear c9
     try clear c9b0
     try clear c10
     try clear c10b0
     try clear c11
     try clear c11b0
     try clear c12
     try clear c14
     try clear c21
     try clear c23
     try clear c23b0
     try clear c23b1
     try clear c23b2
     try clear c24
     try clear c24b0
     try clear c24b1
     try clear c24b2
     try clear c26
     try clear p2
     obtain ⟨kq, x67_16, rfl, HA, HJ16, HO_8, HO_9, HO_10, HO_11, HB⟩ := hcut
     cases kq with
     | zero => exact absurd HA.out (by simp [bywashlaw12_RankEdge.j1])
     | succ kj16 =>
      have H := HA.out
      clear HA
      simp only [bywashlaw12_RankEdge.j1] at H
      by_cases c31 : x67_16 = true
      ·
       subst c31
       have H1 : (some false) = some r := by rw [if_pos rfl] at H; exact H
       clear H
       have H := H1
       exact absurd (Option.some.inj H) (by rw [HRT.out]; decide)
      ·
       replace c31 := Bool.eq_false_iff.mpr c31
       subst c31
       have H1 : (bywashlaw12_RankEdge.l0 kj16 l0 a1 a2 t556 t558 t561 t564 t567 0) = some r := by rw [if_neg (show ¬ (false = true) by decide)] at H; exact H
       clear H
       have H := H1
       clear H1
       have H' := Aside0.mk H
       clear H
       go_wp2
       go_loopg [12] kj16 (fun kq v12 w' => ∃ (x12_3 : Int), v12 = .int .i64 x12_3 ∧ Aside0 (bywashlaw12_RankEdge.l0 kq l0 a1 a2 t556 t558 t561 t564 t567 x12_3 = some r) ∧ Aside0 (kq ≤ kj16) ∧ Aside0 (Kd.S (Kd.slice 3 (Kd.int .i64)) 32 w' w.heap.size (fun k_ => some k_ ≠ (v565 : Value).ownBlock ∧ some k_ ≠ (v568 : Value).ownBlock) (.slice Ao21 t558.length co21) t558) ∧ Aside0 (Kd.R Kd.bool 4 w' w.heap.size (fun _ => True) v562 t561) ∧ Aside0 (Kd.R (Kd.int .i64) 3 w' w.heap.size (fun k_ => some k_ ≠ (v568 : Value).ownBlock) v565 t564) ∧ Aside0 (Kd.R (Kd.int .i64) 3 w' w.heap.size (fun k_ => some k_ ≠ (v565 : Value).ownBlock) v568 t567) ∧ Aside0 (Below w.heap.size w w'))
       case atStart => exact ⟨(0), (by first | rfl | (simp; done) | (simp [*]; done)), H', ⟨Nat.le_refl _⟩, ⟨by (with_reducible repeat (first | apply Kd.S_alloc | apply Kd.S_drewN | apply Kd.S_drew)); exact HO_8.out⟩, ⟨by (with_reducible repeat (first | apply Kd.R_alloc | apply Kd.R_drewN | apply Kd.R_drew)); exact HO_9.out⟩, ⟨by (with_reducible repeat (first | apply Kd.R_alloc | apply Kd.R_drewN | apply Kd.R_drew)); exact HO_10.out⟩, ⟨by (with_reducible repeat (first | apply Kd.R_alloc | apply Kd.R_drewN | apply Kd.R_drew)); exact HO_11.out⟩, ⟨by repeat (first | (with_reducible first | exact HB.out | apply below_alloc | apply pw_below_drewN | apply below_drew1) | exact HB.out)⟩⟩
       case round =>
        clear H'
        try clear c1
        try clear c2
        try clear p2
        try clear c3
        try clear c4
        try clear c8
        try clear c9
        try clear c9b0
        try clear c10
        try clear c10b0
        try clear c11
        try clear c11b0
        try clear c12
        try clear c14
        try clear c21
        try clear c23
        try clear c23b0
        try clear c23b1
        try clear c23b2
        try clear c24
        try clear c24b0
        try clear c24b1
        try clear c24b2
        try clear c26
        try clear c31
        try clear p2
        obtain ⟨x12_3, rfl, HA, HK3, HO_8, HO_9, HO_10, HO_11, HB⟩ := hrel
        cases gk with
        | zero => exact absurd HA.out (by simp [bywashlaw12_RankEdge.l0])
        | succ k3 =>
         have H := HA.out
         clear HA
         simp only [bywashlaw12_RankEdge.l0] at H
         have HC32 := Aside0.mk H
         clear H
         go_upto_region 11 with (fail)
         go_cut [78] (fun v78 wc => ∃ (kq : Nat) (x78_31 : Bool), v78 = .bool x78_31 ∧ Aside0 (bywashlaw12_RankEdge.j3 kq l0 a1 a2 t556 t558 t561 t564 t567 x12_3 x78_31 = some r) ∧ Aside0 (kq ≤ k3) ∧ Aside0 (Kd.S (Kd.slice 3 (Kd.int .i64)) 32 wc w.heap.size (fun k_ => some k_ ≠ (v565 : Value).ownBlock ∧ some k_ ≠ (v568 : Value).ownBlock) (.slice Ao21 t558.length co21) t558) ∧ Aside0 (Kd.R Kd.bool 4 wc w.heap.size (fun _ => True) v562 t561) ∧ Aside0 (Kd.R (Kd.int .i64) 3 wc w.heap.size (fun k_ => some k_ ≠ (v568 : Value).ownBlock) v565 t564) ∧ Aside0 (Kd.R (Kd.int .i64) 3 wc w.heap.size (fun k_ => some k_ ≠ (v565 : Value).ownBlock) v568 t567) ∧ Aside0 (Below w.heap.size w wc))
         case first =>
          have H := HC32.out
          clear HC32
          by_cases c33 : x12_3 < (l0.length : Int)
          ·
           rw [if_pos c33] at H
           have c33b0 : decide (x12_3 < (l0.length : Int)) = true := decide_eq_true c33
           clear c33
           (first | rw [c33b0] | (simp only [i64_w, i32_w]; rw [c33b0]) | skip)
           by_cases c34 : 0 ≤ a1
           ·
            rw [if_pos c34] at H
            have c34b0 : decide (0 ≤ a1) = true := decide_eq_true c34
            clear c34
            by_cases c35 : a1 < (t561.length : Int)
            ·
             rw [if_pos c35] at H
             have c35b0 : decide (a1 < (t561.length : Int)) = true := decide_eq_true c35
             clear c35
             have H' := Aside0.mk H
             clear H
             obtain ⟨Ao36, co36, eo36⟩ := Kd.R_slice HO_9.out
             subst eo36
             have p570 : 0 ≤ (a1 : Int) := of_decide_eq_true (by first | (with_reducible assumption) | assumption)
             have q570 : a1 < (t561.length : Int) := of_decide_eq_true (by first | (with_reducible assumption) | assumption)
             obtain ⟨ad570, e570, hx570_0⟩ := Kd.at_bool (Kd.R_reads' HO_9.out).2.2 a1 p570 q570
             cases e570
             replace p570 := eq_true p570
             replace q570 := eq_true q570
             go_wp2
             go_meet
             case rel => exact ⟨_, (!(rdOf false t561 a1)), (by first | rfl | (simp; done) | (simp [*]; done)), H', ⟨by have := HJ4.out; have := HJ16.out; have := HK3.out; first | omega | exact Nat.le_refl _⟩, ⟨by (with_reducible repeat (first | apply Kd.S_alloc | apply Kd.S_drewN | apply Kd.S_drew)); exact HO_8.out⟩, ⟨by (with_reducible repeat (first | apply Kd.R_alloc | apply Kd.R_drewN | apply Kd.R_drew)); exact HO_9.out⟩, ⟨by (with_reducible repeat (first | apply Kd.R_alloc | apply Kd.R_drewN | apply Kd.R_drew)); exact HO_10.out⟩, ⟨by (with_reducible repeat (first | apply Kd.R_alloc | apply Kd.R_drewN | apply Kd.R_drew)); exact HO_11.out⟩, ⟨by repeat (first | (with_reducible first | exact HB.out | apply below_alloc | apply pw_below_drewN | apply below_drew1) | exact HB.out)⟩⟩
            ·
             rw [if_neg c35] at H
             exact absurd H (by simp)
           ·
            rw [if_neg c34] at H
            exact absurd H (by simp)
          ·
           rw [if_neg c33] at H
           have c33b0 : decide (x12_3 < (l0.length : Int)) = false := decide_eq_false c33
           clear c33
           (first | rw [c33b0] | (simp only [i64_w, i32_w]; rw [c33b0]) | skip)
           have H' := Aside0.mk H
           clear H
           go_wp2
           go_meet
           case rel => exact ⟨_, (false), (by first | rfl | (simp; done) | (simp [*]; done)), H', ⟨by have := HJ4.out; have := HJ16.out; have := HK3.out; first | omega | exact Nat.le_refl _⟩, ⟨by (with_reducible repeat (first | apply Kd.S_alloc | apply Kd.S_drewN | apply Kd.S_drew)); exact HO_8.out⟩, ⟨by (with_reducible repeat (first | apply Kd.R_alloc | apply Kd.R_drewN | apply Kd.R_drew)); exact HO_9.out⟩, ⟨by (with_reducible repeat (first | apply Kd.R_alloc | apply Kd.R_drewN | apply Kd.R_drew)); exact HO_10.out⟩, ⟨by (with_reducible repeat (first | apply Kd.R_alloc | apply Kd.R_drewN | apply Kd.R_drew)); exact HO_11.out⟩, ⟨by repeat (first | (with_reducible first | exact HB.out | apply below_alloc | apply pw_below_drewN | apply below_drew1) | exact HB.out)⟩⟩
         case rest =>
          clear HC32
          try clear c1
          try clear c2
          try clear p2
          try clear c3
          try clear c4
          try clear p5
          try clear q5
          try clear hx5
          try clear c8
          try clear c9
          try clear c9b0
          try clear c10
          try clear c10b0
          try clear c11
          try clear c11b0
          try clear c12
          try clear c14
          try clear c21
          try clear c23
          try clear c23b0
          try clear c23b1
          try clear c23b2
          try clear c24
          try clear c24b0
          try clear c24b1
          try clear c24b2
          try clear c26
          try clear c31
          try clear c33
          try clear c33b0
          try clear c34
          try clear c34b0
          try clear c35
          try clear c35b0
          try clear hx570_0
          try clear p2
          try clear p570
          try clear q570
          obtain ⟨kq, x78_31, rfl, HA, HJ31, HO_8, HO_9, HO_10, HO_11, HB⟩ := hcut
          cases kq with
          | zero => exact absurd HA.out (by simp [bywashlaw12_RankEdge.j3])
          | succ kj31 =>
           have H := HA.out
           clear HA
           simp only [bywashlaw12_RankEdge.j3] at H
           by_cases c37 : x78_31 = true
           ·
            subst c37
            have H1 : (if 0 ≤ x12_3 then (if x12_3 < (t567.length : Int) then (if x12_3 < (t564.length : Int) then (if (rd t567 x12_3) < (rd t564 x12_3) then (some false) else (bywashlaw12_RankEdge.l0 kj31 l0 a1 a2 t556 t558 t561 t564 t567 (wrap64 (x12_3 + 1)))) else (none)) else (none)) else (none)) = some r := by rw [if_pos rfl] at H; exact H
            clear H
            have H := H1
            clear H1
            by_cases c38 : 0 ≤ x12_3
            ·
             rw [if_pos c38] at H
             have c38b0 : decide (0 ≤ x12_3) = true := decide_eq_true c38
             clear c38
             by_cases c39 : x12_3 < (t567.length : Int)
             ·
              rw [if_pos c39] at H
              have c39b0 : decide (x12_3 < (t567.length : Int)) = true := decide_eq_true c39
              clear c39
              by_cases c40 : x12_3 < (t564.length : Int)
              ·
               rw [if_pos c40] at H
               have c40b0 : decide (x12_3 < (t564.length : Int)) = true := decide_eq_true c40
               clear c40
               by_cases c41 : (rd t567 x12_3) < (rd t564 x12_3)
               ·
                rw [if_pos c41] at H
                exact absurd (Option.some.inj H) (by rw [HRT.out]; decide)
               ·
                rw [if_neg c41] at H
                have c41b0 : decide ((rd t567 x12_3) < (rd t564 x12_3)) = false := decide_eq_false c41
                clear c41
                have H' := Aside0.mk H
                clear H
                try go_wp2
                have n0_ := Aside0.mk (Kd.S_drew HO_8.out)
                have n1_ := Aside0.mk (Kd.R_drew HO_9.out)
                have n2_ := Aside0.mk (Kd.R_drew HO_10.out)
                have n3_ := Aside0.mk (Kd.R_drew HO_11.out)
                have n4_ := Aside0.mk (below_drew1 HB.out)
                clear HO_8 HO_9 HO_10 HO_11 HB
                have HO_8 := n0_
                have HO_9 := n1_
                have HO_10 := n2_
                have HO_11 := n3_
                have HB := n4_
                clear n0_ n1_ n2_ n3_ n4_
                obtain ⟨Ao46, co46, eo46⟩ := Kd.R_slice HO_11.out
                (first | subst eo46 | (injection eo46 with f1_ f2_ f3_; have f4_ := f1_.symm; have f5_ := f3_.symm; clear f1_ f2_ f3_; subst f4_; subst f5_))
                have p571 : 0 ≤ (x12_3 : Int) := of_decide_eq_true (by first | (with_reducible assumption) | assumption)
                have q571 : x12_3 < (t567.length : Int) := of_decide_eq_true (by first | (with_reducible assumption) | assumption)
                obtain ⟨ad571, e571, hx571_0⟩ := Kd.at_int (Kd.R_reads' HO_11.out).2.2 x12_3 p571 q571
                cases e571
                replace p571 := eq_true p571
                replace q571 := eq_true q571
                obtain ⟨Ao47, co47, eo47⟩ := Kd.R_slice HO_10.out
                (first | subst eo47 | (injection eo47 with f1_ f2_ f3_; have f4_ := f1_.symm; have f5_ := f3_.symm; clear f1_ f2_ f3_; subst f4_; subst f5_))
                have p572 : 0 ≤ (x12_3 : Int) := of_decide_eq_true (by first | (with_reducible assumption) | assumption)
                have q572 : x12_3 < (t564.length : Int) := of_decide_eq_true (by first | (with_reducible assumption) | assumption)
                obtain ⟨ad572, e572, hx572_0⟩ := Kd.at_int (Kd.R_reads' HO_10.out).2.2 x12_3 p572 q572
                cases e572
                replace p572 := eq_true p572
                replace q572 := eq_true q572
                refine start_ (n := 9) (S := fun w' => w'.cell? (ad571.add (x12_3).toNat) = some (.int .i64 (rd t567 x12_3)) ∧ w'.cell? (ad572.add (x12_3).toNat) = some (.int .i64 (rd t564 x12_3))) (ds := []) (mm [(9, false)]) (by kernel_rfl) rfl rfl ⟨hx571_0, hx572_0⟩ (fun hHeld => ?_); refine with_tabW bywashlaw12_RankEdge.tab13 bywashlaw12_RankEdge.bits13 (fun HT_ HW_ => ?_)
                generalize wc.drew = w45 at HO_8 HO_9 HO_10 HO_11 HB hx571_0 hx572_0 hHeld ⊢
                refine pure_ (i := 0) (N := some 81) (v := ?_) (a' := ?_) (mm [(1, true), (8, false)]) rfl rfl (any_of HT_.out (by kernel_rfl)) (fun _ _ _ h => h) (Or.inl ⟨by rfl, ?_⟩) ?_ ?_
                rotate_left
                ·
                 intro w'
                 go_simp
                 with_reducible rfl
                rotate_left
                ·
                 simp only [Act.put, za_, zb_, zc_, i64_w, i32_w]
                 rfl
                refine pure_ (i := 1) (N := some 82) (v := ?_) (a' := ?_) (mm [(2, true), (7, false)]) rfl rfl (any_of HT_.out (by kernel_rfl)) (fun _ _ _ h => h) (Or.inl ⟨by rfl, ?_⟩) ?_ ?_
                rotate_left
                ·
                 intro w'
                 go_simp
                 with_reducible rfl
                rotate_left
                ·
                 simp only [Act.put, za_, zb_, zc_, i64_w, i32_w]
                 rfl
                refine pure_ (i := 2) (N := some 83) (v := ?_) (a' := ?_) (mm [(3, true), (6, false)]) rfl rfl (any_of HT_.out (by kernel_rfl)) (fun _ _ _ h => h) (Or.inl ⟨by rfl, ?_⟩) ?_ ?_
                rotate_left
                ·
                 intro w'
                 go_simp
                 with_reducible rfl
                rotate_left
                ·
                 simp only [Act.put, za_, zb_, zc_, i64_w, i32_w]
                 rfl
                refine pure_ (i := 4) (N := some 85) (v := ?_) (a' := ?_) (mm [(3, true), (1, false), (1, true), (4, false)]) rfl rfl (any_of HT_.out (by kernel_rfl)) (fun _ _ _ h => h) (Or.inl ⟨by rfl, ?_⟩) ?_ ?_
                rotate_left
                ·
                 intro w'
                 go_simp
                 with_reducible rfl
                rotate_left
                ·
                 simp only [Act.put, za_, zb_, zc_, i64_w, i32_w]
                 rfl
                refine pure_ (i := 5) (N := some 86) (v := ?_) (a' := ?_) (mm [(3, true), (1, false), (2, true), (3, false)]) rfl rfl (any_of HT_.out (by kernel_rfl)) (fun _ _ _ h => h) (Or.inl ⟨by rfl, ?_⟩) ?_ ?_
                rotate_left
                ·
                 intro w'
                 go_simp
                 with_reducible rfl
                rotate_left
                ·
                 simp only [Act.put, za_, zb_, zc_, i64_w, i32_w]
                 rfl
                refine pure_ (i := 6) (N := some 87) (v := ?_) (a' := ?_) (mm [(3, true), (1, false), (3, true), (2, false)]) rfl rfl (any_of HT_.out (by kernel_rfl)) (fun _ _ _ h => h) (Or.inl ⟨by rfl, ?_⟩) ?_ ?_
                rotate_left
                ·
                 intro w'
                 go_simp
                 with_reducible rfl
                rotate_left
                ·
                 simp only [Act.put, za_, zb_, zc_, i64_w, i32_w]
                 rfl
                refine take_ (i := 3) (N := some 84) (v := ?_) (a' := ?_) (mm [(7, true), (2, false)]) rfl rfl (take_ofW HT_.out HW_.out (by kernel_rfl)) (fun _ _ _ h => h) (Or.inl ⟨by rfl, ?_⟩) hHeld ?_ ?_
                rotate_left
                ·
                 rintro w' ⟨s0, s1⟩
                 go_simp
                 with_reducible rfl
                rotate_left
                ·
                 simp only [Act.put, za_, zb_, zc_, i64_w, i32_w]
                 rfl
                refine take_ (i := 7) (N := some 88) (v := ?_) (a' := ?_) (mm [(8, true), (1, false)]) rfl rfl (take_ofW HT_.out HW_.out (by kernel_rfl)) (fun _ _ _ h => h) (Or.inl ⟨by rfl, ?_⟩) hHeld ?_ ?_
                rotate_left
                ·
                 rintro w' ⟨s0, s1⟩
                 go_simp
                 with_reducible rfl
                rotate_left
                ·
                 simp only [Act.put, za_, zb_, zc_, i64_w, i32_w]
                 rfl
                refine pure_ (i := 8) (N := some 89) (v := ?_) (a' := ?_) (mm [(9, true)]) rfl rfl (any_of HT_.out (by kernel_rfl)) (fun _ _ _ h => h) (Or.inl ⟨by rfl, ?_⟩) ?_ ?_
                rotate_left
                ·
                 intro w'
                 go_simp
                 with_reducible rfl
                rotate_left
                ·
                 simp only [Act.put, za_, zb_, zc_, i64_w, i32_w]
                 rfl
                refine done_ (done_of HT_.out (by kernel_rfl)) ?_
                try go_wp2
                go_roundg kj31
                case measure => have := HJ4.out; have := HJ16.out; have := HK3.out; have := HJ31.out; omega
                case rel => exact ⟨(wrap64 (x12_3 + 1)), (by first | rfl | (simp; done) | (simp [*]; done)), H', ⟨by have := HJ4.out; have := HJ16.out; have := HK3.out; have := HJ31.out; omega⟩, ⟨by (with_reducible repeat (first | apply Kd.S_alloc | apply Kd.S_drewN | apply Kd.S_drew)); exact HO_8.out⟩, ⟨by (with_reducible repeat (first | apply Kd.R_alloc | apply Kd.R_drewN | apply Kd.R_drew)); exact HO_9.out⟩, ⟨by (with_reducible repeat (first | apply Kd.R_alloc | apply Kd.R_drewN | apply Kd.R_drew)); exact HO_10.out⟩, ⟨by (with_reducible repeat (first | apply Kd.R_alloc | apply Kd.R_drewN | apply Kd.R_drew)); exact HO_11.out⟩, ⟨by repeat (first | (with_reducible first | exact HB.out | apply below_alloc | apply pw_below_drewN | apply below_drew1) | exact HB.out)⟩⟩
              ·
               rw [if_neg c40] at H
               exact absurd H (by simp)
             ·
              rw [if_neg c39] at H
              exact absurd H (by simp)
            ·
             rw [if_neg c38] at H
             exact absurd H (by simp)
           ·
            replace c37 := Bool.eq_false_iff.mpr c37
            subst c37
            have H1 : (if t556 = true then (if 0 ≤ a1 then (if a1 < (t561.length : Int) then (if rdOf false t561 a1 = true then ((rank_Sound.f t558 t564).bind fun t574 => (if t574 = true then ((rank_Sound.f l0 t564).bind fun t575 => (some t575)) else (some true))) else (if 0 ≤ a2 then (if a2 < (t567.length : Int) then (if a1 < (t567.length : Int) then (if (rd t567 a2) ≥ (wrap64 ((rd t567 a1) + 1)) then ((rank_Sound.f t558 t564).bind fun t578 => (if t578 = true then ((rank_Sound.f l0 t564).bind fun t579 => (some t579)) else (some true))) else (some false)) else (none)) else (none)) else (none))) else (none)) else (none)) else (some false)) = some r := by rw [if_neg (show ¬ (false = true) by decide)] at H; exact H
            clear H
            have H := H1
            clear H1
            by_cases c48 : t556 = true
            ·
             subst c48
             have H1 : (if 0 ≤ a1 then (if a1 < (t561.length : Int) then (if rdOf false t561 a1 = true then ((rank_Sound.f t558 t564).bind fun t574 => (if t574 = true then ((rank_Sound.f l0 t564).bind fun t575 => (some t575)) else (some true))) else (if 0 ≤ a2 then (if a2 < (t567.length : Int) then (if a1 < (t567.length : Int) then (if (rd t567 a2) ≥ (wrap64 ((rd t567 a1) + 1)) then ((rank_Sound.f t558 t564).bind fun t578 => (if t578 = true then ((rank_Sound.f l0 t564).bind fun t579 => (some t579)) else (some true))) else (some false)) else (none)) else (none)) else (none))) else (none)) else (none)) = some r := by rw [if_pos rfl] at H; exact H
             clear H
             have H := H1
             clear H1
             by_cases c49 : 0 ≤ a1
             ·
              rw [if_pos c49] at H
              have c49b0 : decide (0 ≤ a1) = true := decide_eq_true c49
              clear c49
              by_cases c50 : a1 < (t561.length : Int)
              ·
               rw [if_pos c50] at H
               have c50b0 : decide (a1 < (t561.length : Int)) = true := decide_eq_true c50
               clear c50
               obtain ⟨bq51, hbq51⟩ : ∃ b_ : Bool, b_ = (rdOf false t561 a1) := ⟨_, rfl⟩
               replace H : (if bq51 = true then ((rank_Sound.f t558 t564).bind fun t574 => (if t574 = true then ((rank_Sound.f l0 t564).bind fun t575 => (some t575)) else (some true))) else (if 0 ≤ a2 then (if a2 < (t567.length : Int) then (if a1 < (t567.length : Int) then (if (rd t567 a2) ≥ (wrap64 ((rd t567 a1) + 1)) then ((rank_Sound.f t558 t564).bind fun t578 => (if t578 = true then ((rank_Sound.f l0 t564).bind fun t579 => (some t579)) else (some true))) else (some false)) else (none)) else (none)) else (none))) = some r := by rw [← hbq51] at H; exact H
               have Nbq51 := Aside0.mk hbq51
               clear hbq51
               by_cases c52 : bq51 = true
               ·
                subst c52
                have H1 : ((rank_Sound.f t558 t564).bind fun t574 => (if t574 = true then ((rank_Sound.f l0 t564).bind fun t575 => (some t575)) else (some true))) = some r := by rw [if_pos rfl] at H; exact H
                clear H
                have H := H1
                clear H1
                replace H := Option.bind_eq_some_iff.mp H
                obtain ⟨t574, A530, H⟩ := H
                replace H : (if t574 = true then ((rank_Sound.f l0 t564).bind fun t575 => (some t575)) else (some true)) = some r := H
                have A53 := Aside0.mk A530
                clear A530
                by_cases c54 : t574 = true
                ·
                 subst c54
                 have H1 : ((rank_Sound.f l0 t564).bind fun t575 => (some t575)) = some r := by rw [if_pos rfl] at H; exact H
                 clear H
                 have H := H1
                 clear H1
                 replace H := Option.bind_eq_some_iff.mp H
                 obtain ⟨t575, A550, H⟩ := H
                 replace H : (some t575) = some r := H
                 have A55 := Aside0.mk A550
                 clear A550
                 obtain rfl := Option.some.inj H
                 try go_wp2
                 have n0_ := Aside0.mk (Kd.S_drew HO_8.out)
                 have n1_ := Aside0.mk (Kd.R_drew HO_9.out)
                 have n2_ := Aside0.mk (Kd.R_drew HO_10.out)
                 have n3_ := Aside0.mk (Kd.R_drew HO_11.out)
                 have n4_ := Aside0.mk (below_drew1 HB.out)
                 clear HO_8 HO_9 HO_10 HO_11 HB
                 have HO_8 := n0_
                 have HO_9 := n1_
                 have HO_10 := n2_
                 have HO_11 := n3_
                 have HB := n4_
                 clear n0_ n1_ n2_ n3_ n4_
                 obtain ⟨Ao57, co57, eo57⟩ := Kd.R_slice HO_9.out
                 (first | subst eo57 | (injection eo57 with f1_ f2_ f3_; have f4_ := f1_.symm; have f5_ := f3_.symm; clear f1_ f2_ f3_; subst f4_; subst f5_))
                 have p573 : 0 ≤ (a1 : Int) := of_decide_eq_true (by first | (with_reducible assumption) | assumption)
                 have q573 : a1 < (t561.length : Int) := of_decide_eq_true (by first | (with_reducible assumption) | assumption)
                 obtain ⟨ad573, e573, hx573_0⟩ := Kd.at_bool (Kd.R_reads' HO_9.out).2.2 a1 p573 q573
                 (try rw [← Nbq51.out] at hx573_0)
                 cases e573
                 replace p573 := eq_true p573
                 replace q573 := eq_true q573
                 obtain ⟨Ao58, co58, eo58⟩ := Kd.R_slice HO_10.out
                 (first | subst eo58 | (injection eo58 with f1_ f2_ f3_; have f4_ := f1_.symm; have f5_ := f3_.symm; clear f1_ f2_ f3_; subst f4_; subst f5_))
                 refine start_ (n := 31) (S := fun w' => w'.cell? (ad573.add (a1).toNat) = some (.bool true)) (ds := []) (mm [(31, false)]) (by kernel_rfl) rfl rfl (hx573_0) (fun hHeld => ?_); refine with_tabW bywashlaw12_RankEdge.tab15 bywashlaw12_RankEdge.bits15 (fun HT_ HW_ => ?_)
                 generalize wc.drew = w56 at HO_8 HO_9 HO_10 HO_11 HB hx573_0 hHeld ⊢
                 refine pure_ (i := 0) (N := some 90) (v := ?_) (a' := ?_) (mm [(1, true), (30, false)]) rfl rfl (any_of HT_.out (by kernel_rfl)) (fun _ _ _ h => h) (Or.inl ⟨by rfl, ?_⟩) ?_ ?_
                 rotate_left
                 ·
                  intro w'
                  go_simp
                  with_reducible rfl
                 rotate_left
                 ·
                  simp only [Act.put, za_, zb_, zc_, i64_w, i32_w]
                  rfl
                 refine pure_ (i := 1) (N := some 91) (v := ?_) (a' := ?_) (mm [(2, true), (29, false)]) rfl rfl (any_of HT_.out (by kernel_rfl)) (fun _ _ _ h => h) (Or.inl ⟨by rfl, ?_⟩) ?_ ?_
                 rotate_left
                 ·
                  intro w'
                  go_simp
                  with_reducible rfl
                 rotate_left
                 ·
                  simp only [Act.put, za_, zb_, zc_, i64_w, i32_w]
                  rfl
                 refine pure_ (i := 2) (N := some 92) (v := ?_) (a' := ?_) (mm [(3, true), (28, false)]) rfl rfl (any_of HT_.out (by kernel_rfl)) (fun _ _ _ h => h) (Or.inl ⟨by rfl, ?_⟩) ?_ ?_
                 rotate_left
                 ·
                  intro w'
                  go_simp
                  with_reducible rfl
                 rotate_left
                 ·
                  simp only [Act.put, za_, zb_, zc_, i64_w, i32_w]
                  rfl
                 refine pure_ (i := 3) (N := some 93) (v := ?_) (a' := ?_) (mm [(4, true), (27, false)]) rfl rfl (any_of HT_.out (by kernel_rfl)) (fun _ _ _ h => h) (Or.inl ⟨by rfl, ?_⟩) ?_ ?_
                 rotate_left
                 ·
                  intro w'
                  go_simp
                  with_reducible rfl
                 rotate_left
                 ·
                  simp only [Act.put, za_, zb_, zc_, i64_w, i32_w]
                  rfl
                 refine pure_ (i := 4) (N := some 94) (v := ?_) (a' := ?_) (mm [(5, true), (26, false)]) rfl rfl (any_of HT_.out (by kernel_rfl)) (fun _ _ _ h => h) (Or.inl ⟨by rfl, ?_⟩) ?_ ?_
                 rotate_left
                 ·
                  intro w'
                  go_simp
                  with_reducible rfl
                 rotate_left
                 ·
                  simp only [Act.put, za_, zb_, zc_, i64_w, i32_w]
                  rfl
                 refine take_ (i := 5) (N := some 95) (v := ?_) (a' := ?_) (mm [(6, true), (25, false)]) rfl rfl (take_ofW HT_.out HW_.out (by kernel_rfl)) (fun _ _ _ h => h) (Or.inl ⟨by rfl, ?_⟩) hHeld ?_ ?_
                 rotate_left
                 ·
                  intro w' s0
                  go_simp
                  with_reducible rfl
                 rotate_left
                 ·
                  simp only [Act.put, za_, zb_, zc_, i64_w, i32_w]
                  rfl
                 refine pure_ (i := 6) (N := some 96) (v := ?_) (a' := ?_) (mm [(7, true), (24, false)]) rfl rfl (any_of HT_.out (by kernel_rfl)) (fun _ _ _ h => h) (Or.inl ⟨by rfl, ?_⟩) ?_ ?_
                 rotate_left
                 ·
                  intro w'
                  go_simp
                  with_reducible rfl
                 rotate_left
                 ·
                  simp only [Act.put, za_, zb_, zc_, i64_w, i32_w]
                  rfl
                 refine pure_ (i := 7) (N := some 97) (v := undef) (a' := ?_) (mm [(8, true), (23, false)]) rfl rfl (any_of HT_.out (by kernel_rfl)) (fun _ _ _ h => h) (Or.inr ⟨by rfl, rfl⟩) ?_ ?_
                 rotate_left
                 ·
                  simp only [Act.put, za_, zb_, zc_, i64_w, i32_w]
                  rfl
                 refine pure_ (i := 8) (N := some 98) (v := undef) (a' := ?_) (mm [(9, true), (22, false)]) rfl rfl (any_of HT_.out (by kernel_rfl)) (fun _ _ _ h => h) (Or.inr ⟨by rfl, rfl⟩) ?_ ?_
                 rotate_left
                 ·
                  simp only [Act.put, za_, zb_, zc_, i64_w, i32_w]
                  rfl
                 refine pure_ (i := 9) (N := some 99) (v := undef) (a' := ?_) (mm [(10, true), (21, false)]) rfl rfl (any_of HT_.out (by kernel_rfl)) (fun _ _ _ h => h) (Or.inr ⟨by rfl, rfl⟩) ?_ ?_
                 rotate_left
                 ·
                  simp only [Act.put, za_, zb_, zc_, i64_w, i32_w]
                  rfl
                 refine pure_ (i := 10) (N := some 100) (v := undef) (a' := ?_) (mm [(11, true), (20, false)]) rfl rfl (any_of HT_.out (by kernel_rfl)) (fun _ _ _ h => h) (Or.inr ⟨by rfl, rfl⟩) ?_ ?_
                 rotate_left
                 ·
                  simp only [Act.put, za_, zb_, zc_, i64_w, i32_w]
                  rfl
                 refine pure_ (i := 11) (N := some 101) (v := undef) (a' := ?_) (mm [(12, true), (19, false)]) rfl rfl (any_of HT_.out (by kernel_rfl)) (fun _ _ _ h => h) (Or.inr ⟨by rfl, rfl⟩) ?_ ?_
                 rotate_left
                 ·
                  simp only [Act.put, za_, zb_, zc_, i64_w, i32_w]
                  rfl
                 refine pure_ (i := 12) (N := some 102) (v := undef) (a' := ?_) (mm [(13, true), (18, false)]) rfl rfl (any_of HT_.out (by kernel_rfl)) (fun _ _ _ h => h) (Or.inr ⟨by rfl, rfl⟩) ?_ ?_
                 rotate_left
                 ·
                  simp only [Act.put, za_, zb_, zc_, i64_w, i32_w]
                  rfl
                 refine pure_ (i := 13) (N := some 103) (v := undef) (a' := ?_) (mm [(14, true), (17, false)]) rfl rfl (any_of HT_.out (by kernel_rfl)) (fun _ _ _ h => h) (Or.inr ⟨by rfl, rfl⟩) ?_ ?_
                 rotate_left
                 ·
                  simp only [Act.put, za_, zb_, zc_, i64_w, i32_w]
                  rfl
                 refine pure_ (i := 14) (N := some 104) (v := undef) (a' := ?_) (mm [(15, true), (16, false)]) rfl rfl (any_of HT_.out (by kernel_rfl)) (fun _ _ _ h => h) (Or.inr ⟨by rfl, rfl⟩) ?_ ?_
                 rotate_left
                 ·
                  simp only [Act.put, za_, zb_, zc_, i64_w, i32_w]
                  rfl
                 refine pure_ (i := 15) (N := some 105) (v := undef) (a' := ?_) (mm [(16, true), (15, false)]) rfl rfl (any_of HT_.out (by kernel_rfl)) (fun _ _ _ h => h) (Or.inr ⟨by rfl, rfl⟩) ?_ ?_
                 rotate_left
                 ·
                  simp only [Act.put, za_, zb_, zc_, i64_w, i32_w]
                  rfl
                 refine pure_ (i := 16) (N := some 106) (v := undef) (a' := ?_) (mm [(17, true), (14, false)]) rfl rfl (any_of HT_.out (by kernel_rfl)) (fun _ _ _ h => h) (Or.inr ⟨by rfl, rfl⟩) ?_ ?_
                 rotate_left
                 ·
                  simp only [Act.put, za_, zb_, zc_, i64_w, i32_w]
                  rfl
                 refine pure_ (i := 17) (N := some 107) (v := ?_) (a' := ?_) (mm [(18, true), (13, false)]) rfl rfl (any_of HT_.out (by kernel_rfl)) (fun _ _ _ h => h) (Or.inl ⟨by rfl, ?_⟩) ?_ ?_
                 rotate_left
                 ·
                  intro w'
                  go_simp
                  with_reducible rfl
                 rotate_left
                 ·
                  simp only [Act.put, za_, zb_, zc_, i64_w, i32_w]
                  rfl
                 refine pure_ (i := 18) (N := some 108) (v := ?_) (a' := ?_) (mm [(19, true), (12, false)]) rfl rfl (any_of HT_.out (by kernel_rfl)) (fun _ _ _ h => h) (Or.inl ⟨by rfl, ?_⟩) ?_ ?_
                 rotate_left
                 ·
                  intro w'
                  go_simp
                  with_reducible rfl
                 rotate_left
                 ·
                  simp only [Act.put, za_, zb_, zc_, i64_w, i32_w]
                  rfl
                 refine pure_ (i := 19) (N := some 109) (v := ?_) (a' := ?_) (mm [(20, true), (11, false)]) rfl rfl (any_of HT_.out (by kernel_rfl)) (fun _ _ _ h => h) (Or.inl ⟨by rfl, ?_⟩) ?_ ?_
                 rotate_left
                 ·
                  intro w'
                  go_simp
                  with_reducible rfl
                 rotate_left
                 ·
                  simp only [Act.put, za_, zb_, zc_, i64_w, i32_w]
                  rfl
                 refine pure_ (i := 20) (N := some 110) (v := ?_) (a' := ?_) (mm [(21, true), (10, false)]) rfl rfl (any_of HT_.out (by kernel_rfl)) (fun _ _ _ h => h) (Or.inl ⟨by rfl, ?_⟩) ?_ ?_
                 rotate_left
                 ·
                  intro w'
                  go_simp
                  with_reducible rfl
                 rotate_left
                 ·
                  simp only [Act.put, za_, zb_, zc_, i64_w, i32_w]
                  rfl
                 refine pure_ (i := 21) (N := some 111) (v := ?_) (a' := ?_) (mm [(22, true), (9, false)]) rfl rfl (any_of HT_.out (by kernel_rfl)) (fun _ _ _ h => h) (Or.inl ⟨by rfl, ?_⟩) ?_ ?_
                 rotate_left
                 ·
                  intro w'
                  go_simp
                  with_reducible rfl
                 rotate_left
                 ·
                  simp only [Act.put, za_, zb_, zc_, i64_w, i32_w]
                  rfl
                 refine one_ (i := 22) (N := some 112) (mm [(23, true), (8, false)]) rfl rfl (one_of HT_.out (by kernel_rfl)) (by decide) (fun K hK => ?_)
                 refine goes_ Try.func49 (by kernel_rfl) rfl #[.slice Ao21 t558.length co21, .slice Ao58 t564.length co58] (by rfl) rfl rfl (by (try simp only [List.map_toArray, List.map_cons, List.map_nil]); first | done | rfl | (simp only [List.length_drop, List.length_take]; rfl)) ?_
                 with_reducible refine (rank_Sound.calls _ _ t558 _ _ t564 true _ ?side1 ?side2 ?side3 ?side4 A53.out).mono ?_
                 (case side1 => repeat (first | exact (Kd.S_reads' HO_8.out).2.2 | (with_reducible refine Kd.C_alloc ?_ _) | (with_reducible refine Kd.C_drewN ?_ _) | (with_reducible refine Kd.C_drew ?_)))
                 (case side2 => exact (Kd.S_reads' HO_8.out).2.1)
                 (case side3 => repeat (first | exact (Kd.R_reads' HO_10.out).2.2 | (with_reducible refine Kd.C_alloc ?_ _) | (with_reducible refine Kd.C_drewN ?_ _) | (with_reducible refine Kd.C_drew ?_)))
                 (case side4 => exact (Kd.R_reads' HO_10.out).2.1)
                 rintro e w59 ⟨rfl, hb⟩
                 have HS0_ := (hb.cell (World.block_lt_of_cell? _ _ (hHeld))).trans (hHeld)
                 refine ⟨_, rfl, ?_⟩
                 have n0_ := Aside0.mk (Kd.S_below (by (with_reducible repeat (first | apply Kd.S_alloc | apply Kd.S_drewN | apply Kd.S_drew)); exact HO_8.out) hb)
                 have n1_ := Aside0.mk (Kd.R_below (by (with_reducible repeat (first | apply Kd.R_alloc | apply Kd.R_drewN | apply Kd.R_drew)); exact HO_9.out) hb)
                 have n2_ := Aside0.mk (Kd.R_below (by (with_reducible repeat (first | apply Kd.R_alloc | apply Kd.R_drewN | apply Kd.R_drew)); exact HO_10.out) hb)
                 have n3_ := Aside0.mk (Kd.R_below (by (with_reducible repeat (first | apply Kd.R_alloc | apply Kd.R_drewN | apply Kd.R_drew)); exact HO_11.out) hb)
                 have n4_ := Aside0.mk (below_step (by repeat (first | (with_reducible first | exact HB.out | apply below_alloc | apply pw_below_drewN | apply below_drew1) | exact HB.out)) hb)
                 clear HO_8 HO_9 HO_10 HO_11 HB
                 have HO_8 := n0_
                 have HO_9 := n1_
                 have HO_10 := n2_
                 have HO_11 := n3_
                 have HB := n4_
                 clear n0_ n1_ n2_ n3_ n4_
                 (try clear hb)
                 (try clear hb2)
                 (try clear hk)
                 (try clear hi)
                 refine hK.out _ _ (HS0_) (fun hHeld => ?_)
                 clear hK K
                 refine norm_ (a' := ?_) ?_ ?_
                 rotate_left
                 ·
                  show Act.put _ (some 112) _ = _
                  simp only [Act.put, za_, zb_, zc_, i64_w, i32_w]
                  rfl
                 refine pure_ (i := 23) (N := some 113) (v := ?_) (a' := ?_) (mm [(24, true), (7, false)]) rfl rfl (any_of HT_.out (by kernel_rfl)) (fun _ _ _ h => h) (Or.inl ⟨by rfl, ?_⟩) ?_ ?_
                 rotate_left
                 ·
                  intro w'
                  go_simp
                  with_reducible rfl
                 rotate_left
                 ·
                  simp only [Act.put, za_, zb_, zc_, i64_w, i32_w]
                  rfl
                 refine pure_ (i := 24) (N := some 114) (v := ?_) (a' := ?_) (mm [(25, true), (6, false)]) rfl rfl (any_of HT_.out (by kernel_rfl)) (fun _ _ _ h => h) (Or.inl ⟨by rfl, ?_⟩) ?_ ?_
                 rotate_left
                 ·
                  intro w'
                  go_simp
                  with_reducible rfl
                 rotate_left
                 ·
                  simp only [Act.put, za_, zb_, zc_, i64_w, i32_w]
                  rfl
                 refine pure_ (i := 25) (N := some 115) (v := ?_) (a' := ?_) (mm [(26, true), (5, false)]) rfl rfl (any_of HT_.out (by kernel_rfl)) (fun _ _ _ h => h) (Or.inl ⟨by rfl, ?_⟩) ?_ ?_
                 rotate_left
                 ·
                  intro w'
                  go_simp
                  with_reducible rfl
                 rotate_left
                 ·
                  simp only [Act.put, za_, zb_, zc_, i64_w, i32_w]
                  rfl
                 refine pure_ (i := 26) (N := some 116) (v := ?_) (a' := ?_) (mm [(27, true), (4, false)]) rfl rfl (any_of HT_.out (by kernel_rfl)) (fun _ _ _ h => h) (Or.inl ⟨by rfl, ?_⟩) ?_ ?_
                 rotate_left
                 ·
                  intro w'
                  go_simp
                  with_reducible rfl
                 rotate_left
                 ·
                  simp only [Act.put, za_, zb_, zc_, i64_w, i32_w]
                  rfl
                 refine one_ (i := 27) (N := some 117) (mm [(28, true), (3, false)]) rfl rfl (one_of HT_.out (by kernel_rfl)) (by decide) (fun K hK => ?_)
                 refine goes_ Try.func49 (by kernel_rfl) rfl #[.slice A0 l0.length c0, .slice Ao58 t564.length co58] (by rfl) rfl rfl (by (try simp only [List.map_toArray, List.map_cons, List.map_nil]); first | done | rfl | (simp only [List.length_drop, List.length_take]; rfl)) ?_
                 with_reducible refine (rank_Sound.calls _ _ l0 _ _ t564 t575 _ ?side1 ?side2 ?side3 ?side4 A55.out).mono ?_
                 (case side1 => repeat (first | exact (Kd.C_below HR0.out HB.out) | (with_reducible refine Kd.C_alloc ?_ _) | (with_reducible refine Kd.C_drewN ?_ _) | (with_reducible refine Kd.C_drew ?_)))
                 (case side2 => exact HC0.out)
                 (case side3 => repeat (first | exact (Kd.R_reads' HO_10.out).2.2 | (with_reducible refine Kd.C_alloc ?_ _) | (with_reducible refine Kd.C_drewN ?_ _) | (with_reducible refine Kd.C_drew ?_)))
                 (case side4 => exact (Kd.R_reads' HO_10.out).2.1)
                 rintro e w60 ⟨rfl, hb⟩
                 have HS0_ := (hb.cell (World.block_lt_of_cell? _ _ (hHeld))).trans (hHeld)
                 refine ⟨_, rfl, ?_⟩
                 have n0_ := Aside0.mk (Kd.S_below (by (with_reducible repeat (first | apply Kd.S_alloc | apply Kd.S_drewN | apply Kd.S_drew)); exact HO_8.out) hb)
                 have n1_ := Aside0.mk (Kd.R_below (by (with_reducible repeat (first | apply Kd.R_alloc | apply Kd.R_drewN | apply Kd.R_drew)); exact HO_9.out) hb)
                 have n2_ := Aside0.mk (Kd.R_below (by (with_reducible repeat (first | apply Kd.R_alloc | apply Kd.R_drewN | apply Kd.R_drew)); exact HO_10.out) hb)
                 have n3_ := Aside0.mk (Kd.R_below (by (with_reducible repeat (first | apply Kd.R_alloc | apply Kd.R_drewN | apply Kd.R_drew)); exact HO_11.out) hb)
                 have n4_ := Aside0.mk (below_step (by repeat (first | (with_reducible first | exact HB.out | apply below_alloc | apply pw_below_drewN | apply below_drew1) | exact HB.out)) hb)
                 clear HO_8 HO_9 HO_10 HO_11 HB
                 have HO_8 := n0_
                 have HO_9 := n1_
                 have HO_10 := n2_
                 have HO_11 := n3_
                 have HB := n4_
                 clear n0_ n1_ n2_ n3_ n4_
                 (try clear hb)
                 (try clear hb2)
                 (try clear hk)
                 (try clear hi)
                 refine hK.out _ _ (HS0_) (fun hHeld => ?_)
                 clear hK K
                 refine norm_ (a' := ?_) ?_ ?_
                 rotate_left
                 ·
                  show Act.put _ (some 117) _ = _
                  simp only [Act.put, za_, zb_, zc_, i64_w, i32_w]
                  rfl
                 refine pure_ (i := 28) (N := some 118) (v := ?_) (a' := ?_) (mm [(29, true), (2, false)]) rfl rfl (any_of HT_.out (by kernel_rfl)) (fun _ _ _ h => h) (Or.inl ⟨by rfl, ?_⟩) ?_ ?_
                 rotate_left
                 ·
                  intro w'
                  go_simp
                  with_reducible rfl
                 rotate_left
                 ·
                  simp only [Act.put, za_, zb_, zc_, i64_w, i32_w]
                  rfl
                 refine pure_ (i := 29) (N := some 119) (v := ?_) (a' := ?_) (mm [(30, true), (1, false)]) rfl rfl (any_of HT_.out (by kernel_rfl)) (fun _ _ _ h => h) (Or.inl ⟨by rfl, ?_⟩) ?_ ?_
                 rotate_left
                 ·
                  intro w'
                  go_simp
                  with_reducible rfl
                 rotate_left
                 ·
                  simp only [Act.put, za_, zb_, zc_, i64_w, i32_w]
                  rfl
                 refine pure_ (i := 30) (N := some 6) (v := ?_) (a' := ?_) (mm [(31, true)]) rfl rfl (any_of HT_.out (by kernel_rfl)) (fun _ _ _ h => h) (Or.inl ⟨by rfl, ?_⟩) ?_ ?_
                 rotate_left
                 ·
                  intro w'
                  go_simp
                  with_reducible rfl
                 rotate_left
                 ·
                  simp only [Act.put, za_, zb_, zc_, i64_w, i32_w]
                  rfl
                 refine done_ (done_of HT_.out (by kernel_rfl)) ?_
                 try go_wp2
                 go_ret
                 exact ⟨by first | rfl | (simp [errW_none, errW_some] <;> rfl) | (simp [*, errW_none, errW_some] <;> rfl) | (exfalso; (try simp_all); (try omega); done), by repeat (first | (with_reducible first | exact HB.out | apply below_alloc | apply pw_below_drewN | apply below_drew1) | exact HB.out)⟩
                ·
                 replace c54 := Bool.eq_false_iff.mpr c54
                 subst c54
                 have H1 : (some true) = some r := by rw [if_neg (show ¬ (false = true) by decide)] at H; exact H
                 clear H
                 have H := H1
                 clear H1
                 obtain rfl := Option.some.inj H
                 try go_wp2
                 have n0_ := Aside0.mk (Kd.S_drew HO_8.out)
                 have n1_ := Aside0.mk (Kd.R_drew HO_9.out)
                 have n2_ := Aside0.mk (Kd.R_drew HO_10.out)
                 have n3_ := Aside0.mk (Kd.R_drew HO_11.out)
                 have n4_ := Aside0.mk (below_drew1 HB.out)
                 clear HO_8 HO_9 HO_10 HO_11 HB
                 have HO_8 := n0_
                 have HO_9 := n1_
                 have HO_10 := n2_
                 have HO_11 := n3_
                 have HB := n4_
                 clear n0_ n1_ n2_ n3_ n4_
                 obtain ⟨Ao62, co62, eo62⟩ := Kd.R_slice HO_9.out
                 (first | subst eo62 | (injection eo62 with f1_ f2_ f3_; have f4_ := f1_.symm; have f5_ := f3_.symm; clear f1_ f2_ f3_; subst f4_; subst f5_))
                 have p573 : 0 ≤ (a1 : Int) := of_decide_eq_true (by first | (with_reducible assumption) | assumption)
                 have q573 : a1 < (t561.length : Int) := of_decide_eq_true (by first | (with_reducible assumption) | assumption)
                 obtain ⟨ad573, e573, hx573_0⟩ := Kd.at_bool (Kd.R_reads' HO_9.out).2.2 a1 p573 q573
                 (try rw [← Nbq51.out] at hx573_0)
                 cases e573
                 replace p573 := eq_true p573
                 replace q573 := eq_true q573
                 obtain ⟨Ao63, co63, eo63⟩ := Kd.R_slice HO_10.out
                 (first | subst eo63 | (injection eo63 with f1_ f2_ f3_; have f4_ := f1_.symm; have f5_ := f3_.symm; clear f1_ f2_ f3_; subst f4_; subst f5_))
                 refine start_ (n := 31) (S := fun w' => w'.cell? (ad573.add (a1).toNat) = some (.bool true)) (ds := []) (mm [(31, false)]) (by kernel_rfl) rfl rfl (hx573_0) (fun hHeld => ?_); refine with_tabW bywashlaw12_RankEdge.tab15 bywashlaw12_RankEdge.bits15 (fun HT_ HW_ => ?_)
                 generalize wc.drew = w61 at HO_8 HO_9 HO_10 HO_11 HB hx573_0 hHeld ⊢
                 refine pure_ (i := 0) (N := some 90) (v := ?_) (a' := ?_) (mm [(1, true), (30, false)]) rfl rfl (any_of HT_.out (by kernel_rfl)) (fun _ _ _ h => h) (Or.inl ⟨by rfl, ?_⟩) ?_ ?_
                 rotate_left
                 ·
                  intro w'
                  go_simp
                  with_reducible rfl
                 rotate_left
                 ·
                  simp only [Act.put, za_, zb_, zc_, i64_w, i32_w]
                  rfl
                 refine pure_ (i := 1) (N := some 91) (v := ?_) (a' := ?_) (mm [(2, true), (29, false)]) rfl rfl (any_of HT_.out (by kernel_rfl)) (fun _ _ _ h => h) (Or.inl ⟨by rfl, ?_⟩) ?_ ?_
                 rotate_left
                 ·
                  intro w'
                  go_simp
                  with_reducible rfl
                 rotate_left
                 ·
                  simp only [Act.put, za_, zb_, zc_, i64_w, i32_w]
                  rfl
                 refine pure_ (i := 2) (N := some 92) (v := ?_) (a' := ?_) (mm [(3, true), (28, false)]) rfl rfl (any_of HT_.out (by kernel_rfl)) (fun _ _ _ h => h) (Or.inl ⟨by rfl, ?_⟩) ?_ ?_
                 rotate_left
                 ·
                  intro w'
                  go_simp
                  with_reducible rfl
                 rotate_left
                 ·
                  simp only [Act.put, za_, zb_, zc_, i64_w, i32_w]
                  rfl
                 refine pure_ (i := 3) (N := some 93) (v := ?_) (a' := ?_) (mm [(4, true), (27, false)]) rfl rfl (any_of HT_.out (by kernel_rfl)) (fun _ _ _ h => h) (Or.inl ⟨by rfl, ?_⟩) ?_ ?_
                 rotate_left
                 ·
                  intro w'
                  go_simp
                  with_reducible rfl
                 rotate_left
                 ·
                  simp only [Act.put, za_, zb_, zc_, i64_w, i32_w]
                  rfl
                 refine pure_ (i := 4) (N := some 94) (v := ?_) (a' := ?_) (mm [(5, true), (26, false)]) rfl rfl (any_of HT_.out (by kernel_rfl)) (fun _ _ _ h => h) (Or.inl ⟨by rfl, ?_⟩) ?_ ?_
                 rotate_left
                 ·
                  intro w'
                  go_simp
                  with_reducible rfl
                 rotate_left
                 ·
                  simp only [Act.put, za_, zb_, zc_, i64_w, i32_w]
                  rfl
                 refine take_ (i := 5) (N := some 95) (v := ?_) (a' := ?_) (mm [(6, true), (25, false)]) rfl rfl (take_ofW HT_.out HW_.out (by kernel_rfl)) (fun _ _ _ h => h) (Or.inl ⟨by rfl, ?_⟩) hHeld ?_ ?_
                 rotate_left
                 ·
                  intro w' s0
                  go_simp
                  with_reducible rfl
                 rotate_left
                 ·
                  simp only [Act.put, za_, zb_, zc_, i64_w, i32_w]
                  rfl
                 refine pure_ (i := 6) (N := some 96) (v := ?_) (a' := ?_) (mm [(7, true), (24, false)]) rfl rfl (any_of HT_.out (by kernel_rfl)) (fun _ _ _ h => h) (Or.inl ⟨by rfl, ?_⟩) ?_ ?_
                 rotate_left
                 ·
                  intro w'
                  go_simp
                  with_reducible rfl
                 rotate_left
                 ·
                  simp only [Act.put, za_, zb_, zc_, i64_w, i32_w]
                  rfl
                 refine pure_ (i := 7) (N := some 97) (v := undef) (a' := ?_) (mm [(8, true), (23, false)]) rfl rfl (any_of HT_.out (by kernel_rfl)) (fun _ _ _ h => h) (Or.inr ⟨by rfl, rfl⟩) ?_ ?_
                 rotate_left
                 ·
                  simp only [Act.put, za_, zb_, zc_, i64_w, i32_w]
                  rfl
                 refine pure_ (i := 8) (N := some 98) (v := undef) (a' := ?_) (mm [(9, true), (22, false)]) rfl rfl (any_of HT_.out (by kernel_rfl)) (fun _ _ _ h => h) (Or.inr ⟨by rfl, rfl⟩) ?_ ?_
                 rotate_left
                 ·
                  simp only [Act.put, za_, zb_, zc_, i64_w, i32_w]
                  rfl
                 refine pure_ (i := 9) (N := some 99) (v := undef) (a' := ?_) (mm [(10, true), (21, false)]) rfl rfl (any_of HT_.out (by kernel_rfl)) (fun _ _ _ h => h) (Or.inr ⟨by rfl, rfl⟩) ?_ ?_
                 rotate_left
                 ·
                  simp only [Act.put, za_, zb_, zc_, i64_w, i32_w]
                  rfl
                 refine pure_ (i := 10) (N := some 100) (v := undef) (a' := ?_) (mm [(11, true), (20, false)]) rfl rfl (any_of HT_.out (by kernel_rfl)) (fun _ _ _ h => h) (Or.inr ⟨by rfl, rfl⟩) ?_ ?_
                 rotate_left
                 ·
                  simp only [Act.put, za_, zb_, zc_, i64_w, i32_w]
                  rfl
                 refine pure_ (i := 11) (N := some 101) (v := undef) (a' := ?_) (mm [(12, true), (19, false)]) rfl rfl (any_of HT_.out (by kernel_rfl)) (fun _ _ _ h => h) (Or.inr ⟨by rfl, rfl⟩) ?_ ?_
                 rotate_left
                 ·
                  simp only [Act.put, za_, zb_, zc_, i64_w, i32_w]
                  rfl
                 refine pure_ (i := 12) (N := some 102) (v := undef) (a' := ?_) (mm [(13, true), (18, false)]) rfl rfl (any_of HT_.out (by kernel_rfl)) (fun _ _ _ h => h) (Or.inr ⟨by rfl, rfl⟩) ?_ ?_
                 rotate_left
                 ·
                  simp only [Act.put, za_, zb_, zc_, i64_w, i32_w]
                  rfl
                 refine pure_ (i := 13) (N := some 103) (v := undef) (a' := ?_) (mm [(14, true), (17, false)]) rfl rfl (any_of HT_.out (by kernel_rfl)) (fun _ _ _ h => h) (Or.inr ⟨by rfl, rfl⟩) ?_ ?_
                 rotate_left
                 ·
                  simp only [Act.put, za_, zb_, zc_, i64_w, i32_w]
                  rfl
                 refine pure_ (i := 14) (N := some 104) (v := undef) (a' := ?_) (mm [(15, true), (16, false)]) rfl rfl (any_of HT_.out (by kernel_rfl)) (fun _ _ _ h => h) (Or.inr ⟨by rfl, rfl⟩) ?_ ?_
                 rotate_left
                 ·
                  simp only [Act.put, za_, zb_, zc_, i64_w, i32_w]
                  rfl
                 refine pure_ (i := 15) (N := some 105) (v := undef) (a' := ?_) (mm [(16, true), (15, false)]) rfl rfl (any_of HT_.out (by kernel_rfl)) (fun _ _ _ h => h) (Or.inr ⟨by rfl, rfl⟩) ?_ ?_
                 rotate_left
                 ·
                  simp only [Act.put, za_, zb_, zc_, i64_w, i32_w]
                  rfl
                 refine pure_ (i := 16) (N := some 106) (v := undef) (a' := ?_) (mm [(17, true), (14, false)]) rfl rfl (any_of HT_.out (by kernel_rfl)) (fun _ _ _ h => h) (Or.inr ⟨by rfl, rfl⟩) ?_ ?_
                 rotate_left
                 ·
                  simp only [Act.put, za_, zb_, zc_, i64_w, i32_w]
                  rfl
                 refine pure_ (i := 17) (N := some 107) (v := ?_) (a' := ?_) (mm [(18, true), (13, false)]) rfl rfl (any_of HT_.out (by kernel_rfl)) (fun _ _ _ h => h) (Or.inl ⟨by rfl, ?_⟩) ?_ ?_
                 rotate_left
                 ·
                  intro w'
                  go_simp
                  with_reducible rfl
                 rotate_left
                 ·
                  simp only [Act.put, za_, zb_, zc_, i64_w, i32_w]
                  rfl
                 refine pure_ (i := 18) (N := some 108) (v := ?_) (a' := ?_) (mm [(19, true), (12, false)]) rfl rfl (any_of HT_.out (by kernel_rfl)) (fun _ _ _ h => h) (Or.inl ⟨by rfl, ?_⟩) ?_ ?_
                 rotate_left
                 ·
                  intro w'
                  go_simp
                  with_reducible rfl
                 rotate_left
                 ·
                  simp only [Act.put, za_, zb_, zc_, i64_w, i32_w]
                  rfl
                 refine pure_ (i := 19) (N := some 109) (v := ?_) (a' := ?_) (mm [(20, true), (11, false)]) rfl rfl (any_of HT_.out (by kernel_rfl)) (fun _ _ _ h => h) (Or.inl ⟨by rfl, ?_⟩) ?_ ?_
                 rotate_left
                 ·
                  intro w'
                  go_simp
                  with_reducible rfl
                 rotate_left
                 ·
                  simp only [Act.put, za_, zb_, zc_, i64_w, i32_w]
                  rfl
                 refine pure_ (i := 20) (N := some 110) (v := ?_) (a' := ?_) (mm [(21, true), (10, false)]) rfl rfl (any_of HT_.out (by kernel_rfl)) (fun _ _ _ h => h) (Or.inl ⟨by rfl, ?_⟩) ?_ ?_
                 rotate_left
                 ·
                  intro w'
                  go_simp
                  with_reducible rfl
                 rotate_left
                 ·
                  simp only [Act.put, za_, zb_, zc_, i64_w, i32_w]
                  rfl
                 refine pure_ (i := 21) (N := some 111) (v := ?_) (a' := ?_) (mm [(22, true), (9, false)]) rfl rfl (any_of HT_.out (by kernel_rfl)) (fun _ _ _ h => h) (Or.inl ⟨by rfl, ?_⟩) ?_ ?_
                 rotate_left
                 ·
                  intro w'
                  go_simp
                  with_reducible rfl
                 rotate_left
                 ·
                  simp only [Act.put, za_, zb_, zc_, i64_w, i32_w]
                  rfl
                 refine one_ (i := 22) (N := some 112) (mm [(23, true), (8, false)]) rfl rfl (one_of HT_.out (by kernel_rfl)) (by decide) (fun K hK => ?_)
                 refine goes_ Try.func49 (by kernel_rfl) rfl #[.slice Ao21 t558.length co21, .slice Ao63 t564.length co63] (by rfl) rfl rfl (by (try simp only [List.map_toArray, List.map_cons, List.map_nil]); first | done | rfl | (simp only [List.length_drop, List.length_take]; rfl)) ?_
                 with_reducible refine (rank_Sound.calls _ _ t558 _ _ t564 false _ ?side1 ?side2 ?side3 ?side4 A53.out).mono ?_
                 (case side1 => repeat (first | exact (Kd.S_reads' HO_8.out).2.2 | (with_reducible refine Kd.C_alloc ?_ _) | (with_reducible refine Kd.C_drewN ?_ _) | (with_reducible refine Kd.C_drew ?_)))
                 (case side2 => exact (Kd.S_reads' HO_8.out).2.1)
                 (case side3 => repeat (first | exact (Kd.R_reads' HO_10.out).2.2 | (with_reducible refine Kd.C_alloc ?_ _) | (with_reducible refine Kd.C_drewN ?_ _) | (with_reducible refine Kd.C_drew ?_)))
                 (case side4 => exact (Kd.R_reads' HO_10.out).2.1)
                 rintro e w64 ⟨rfl, hb⟩
                 have HS0_ := (hb.cell (World.block_lt_of_cell? _ _ (hHeld))).trans (hHeld)
                 refine ⟨_, rfl, ?_⟩
                 have n0_ := Aside0.mk (Kd.S_below (by (with_reducible repeat (first | apply Kd.S_alloc | apply Kd.S_drewN | apply Kd.S_drew)); exact HO_8.out) hb)
                 have n1_ := Aside0.mk (Kd.R_below (by (with_reducible repeat (first | apply Kd.R_alloc | apply Kd.R_drewN | apply Kd.R_drew)); exact HO_9.out) hb)
                 have n2_ := Aside0.mk (Kd.R_below (by (with_reducible repeat (first | apply Kd.R_alloc | apply Kd.R_drewN | apply Kd.R_drew)); exact HO_10.out) hb)
                 have n3_ := Aside0.mk (Kd.R_below (by (with_reducible repeat (first | apply Kd.R_alloc | apply Kd.R_drewN | apply Kd.R_drew)); exact HO_11.out) hb)
                 have n4_ := Aside0.mk (below_step (by repeat (first | (with_reducible first | exact HB.out | apply below_alloc | apply pw_below_drewN | apply below_drew1) | exact HB.out)) hb)
                 clear HO_8 HO_9 HO_10 HO_11 HB
                 have HO_8 := n0_
                 have HO_9 := n1_
                 have HO_10 := n2_
                 have HO_11 := n3_
                 have HB := n4_
                 clear n0_ n1_ n2_ n3_ n4_
                 (try clear hb)
                 (try clear hb2)
                 (try clear hk)
                 (try clear hi)
                 refine hK.out _ _ (HS0_) (fun hHeld => ?_)
                 clear hK K
                 refine norm_ (a' := ?_) ?_ ?_
                 rotate_left
                 ·
                  show Act.put _ (some 112) _ = _
                  simp only [Act.put, za_, zb_, zc_, i64_w, i32_w]
                  rfl
                 refine pure_ (i := 23) (N := some 113) (v := ?_) (a' := ?_) (mm [(24, true), (7, false)]) rfl rfl (any_of HT_.out (by kernel_rfl)) (fun _ _ _ h => h) (Or.inl ⟨by rfl, ?_⟩) ?_ ?_
                 rotate_left
                 ·
                  intro w'
                  go_simp
                  with_reducible rfl
                 rotate_left
                 ·
                  simp only [Act.put, za_, zb_, zc_, i64_w, i32_w]
                  rfl
                 refine pure_ (i := 24) (N := some 114) (v := ?_) (a' := ?_) (mm [(25, true), (6, false)]) rfl rfl (any_of HT_.out (by kernel_rfl)) (fun _ _ _ h => h) (Or.inl ⟨by rfl, ?_⟩) ?_ ?_
                 rotate_left
                 ·
                  intro w'
                  go_simp
                  with_reducible rfl
                 rotate_left
                 ·
                  simp only [Act.put, za_, zb_, zc_, i64_w, i32_w]
                  rfl
                 refine pure_ (i := 25) (N := some 115) (v := undef) (a' := ?_) (mm [(26, true), (5, false)]) rfl rfl (any_of HT_.out (by kernel_rfl)) (fun _ _ _ h => h) (Or.inr ⟨by rfl, rfl⟩) ?_ ?_
                 rotate_left
                 ·
                  simp only [Act.put, za_, zb_, zc_, i64_w, i32_w]
                  rfl
                 refine pure_ (i := 26) (N := some 116) (v := undef) (a' := ?_) (mm [(27, true), (4, false)]) rfl rfl (any_of HT_.out (by kernel_rfl)) (fun _ _ _ h => h) (Or.inr ⟨by rfl, rfl⟩) ?_ ?_
                 rotate_left
                 ·
                  simp only [Act.put, za_, zb_, zc_, i64_w, i32_w]
                  rfl
                 refine pure_ (i := 27) (N := some 117) (v := undef) (a' := ?_) (mm [(28, true), (3, false)]) rfl rfl (any_of HT_.out (by kernel_rfl)) (fun _ _ _ h => h) (Or.inr ⟨by rfl, rfl⟩) ?_ ?_
                 rotate_left
                 ·
                  simp only [Act.put, za_, zb_, zc_, i64_w, i32_w]
                  rfl
                 refine pure_ (i := 28) (N := some 118) (v := ?_) (a' := ?_) (mm [(29, true), (2, false)]) rfl rfl (any_of HT_.out (by kernel_rfl)) (fun _ _ _ h => h) (Or.inl ⟨by rfl, ?_⟩) ?_ ?_
                 rotate_left
                 ·
                  intro w'
                  go_simp
                  with_reducible rfl
                 rotate_left
                 ·
                  simp only [Act.put, za_, zb_, zc_, i64_w, i32_w]
                  rfl
                 refine pure_ (i := 29) (N := some 119) (v := ?_) (a' := ?_) (mm [(30, true), (1, false)]) rfl rfl (any_of HT_.out (by kernel_rfl)) (fun _ _ _ h => h) (Or.inl ⟨by rfl, ?_⟩) ?_ ?_
                 rotate_left
                 ·
                  intro w'
                  go_simp
                  with_reducible rfl
                 rotate_left
                 ·
                  simp only [Act.put, za_, zb_, zc_, i64_w, i32_w]
                  rfl
                 refine pure_ (i := 30) (N := some 6) (v := ?_) (a' := ?_) (mm [(31, true)]) rfl rfl (any_of HT_.out (by kernel_rfl)) (fun _ _ _ h => h) (Or.inl ⟨by rfl, ?_⟩) ?_ ?_
                 rotate_left
                 ·
                  intro w'
                  go_simp
                  with_reducible rfl
                 rotate_left
                 ·
                  simp only [Act.put, za_, zb_, zc_, i64_w, i32_w]
                  rfl
                 refine done_ (done_of HT_.out (by kernel_rfl)) ?_
                 try go_wp2
                 go_ret
                 exact ⟨by first | rfl | (simp [errW_none, errW_some] <;> rfl) | (simp [*, errW_none, errW_some] <;> rfl) | (exfalso; (try simp_all); (try omega); done), by repeat (first | (with_reducible first | exact HB.out | apply below_alloc | apply pw_below_drewN | apply below_drew1) | exact HB.out)⟩
               ·
                replace c52 := Bool.eq_false_iff.mpr c52
                subst c52
                have H1 : (if 0 ≤ a2 then (if a2 < (t567.length : Int) then (if a1 < (t567.length : Int) then (if (rd t567 a2) ≥ (wrap64 ((rd t567 a1) + 1)) then ((rank_Sound.f t558 t564).bind fun t578 => (if t578 = true then ((rank_Sound.f l0 t564).bind fun t579 => (some t579)) else (some true))) else (some false)) else (none)) else (none)) else (none)) = some r := by rw [if_neg (show ¬ (false = true) by decide)] at H; exact H
                clear H
                have H := H1
                clear H1
                by_cases c65 : 0 ≤ a2
                ·
                 rw [if_pos c65] at H
                 have c65b0 : decide (0 ≤ a2) = true := decide_eq_true c65
                 clear c65
                 by_cases c66 : a2 < (t567.length : Int)
                 ·
                  rw [if_pos c66] at H
                  have c66b0 : decide (a2 < (t567.length : Int)) = true := decide_eq_true c66
                  clear c66
                  by_cases c67 : a1 < (t567.length : Int)
                  ·
                   rw [if_pos c67] at H
                   have c67b0 : decide (a1 < (t567.length : Int)) = true := decide_eq_true c67
                   clear c67
                   by_cases c68 : (rd t567 a2) ≥ (wrap64 ((rd t567 a1) + 1))
                   ·
                    rw [if_pos c68] at H
                    have c68b0 : decide ((wrap64 ((rd t567 a1) + 1)) ≤ (rd t567 a2)) = true := decide_eq_true c68
                    clear c68
                    replace H := Option.bind_eq_some_iff.mp H
                    obtain ⟨t578, A690, H⟩ := H
                    replace H : (if t578 = true then ((rank_Sound.f l0 t564).bind fun t579 => (some t579)) else (some true)) = some r := H
                    have A69 := Aside0.mk A690
                    clear A690
                    by_cases c70 : t578 = true
                    ·
                     subst c70
                     have H1 : ((rank_Sound.f l0 t564).bind fun t579 => (some t579)) = some r := by rw [if_pos rfl] at H; exact H
                     clear H
                     have H := H1
                     clear H1
                     replace H := Option.bind_eq_some_iff.mp H
                     obtain ⟨t579, A710, H⟩ := H
                     replace H : (some t579) = some r := H
                     have A71 := Aside0.mk A710
                     clear A710
                     obtain rfl := Option.some.inj H
                     try go_wp2
                     have n0_ := Aside0.mk (Kd.S_drew HO_8.out)
                     have n1_ := Aside0.mk (Kd.R_drew HO_9.out)
                     have n2_ := Aside0.mk (Kd.R_drew HO_10.out)
                     have n3_ := Aside0.mk (Kd.R_drew HO_11.out)
                     have n4_ := Aside0.mk (below_drew1 HB.out)
                     clear HO_8 HO_9 HO_10 HO_11 HB
                     have HO_8 := n0_
                     have HO_9 := n1_
                     have HO_10 := n2_
                     have HO_11 := n3_
                     have HB := n4_
                     clear n0_ n1_ n2_ n3_ n4_
                     obtain ⟨Ao73, co73, eo73⟩ := Kd.R_slice HO_9.out
                     (first | subst eo73 | (injection eo73 with f1_ f2_ f3_; have f4_ := f1_.symm; have f5_ := f3_.symm; clear f1_ f2_ f3_; subst f4_; subst f5_))
                     have p573 : 0 ≤ (a1 : Int) := of_decide_eq_true (by first | (with_reducible assumption) | assumption)
                     have q573 : a1 < (t561.length : Int) := of_decide_eq_true (by first | (with_reducible assumption) | assumption)
                     obtain ⟨ad573, e573, hx573_0⟩ := Kd.at_bool (Kd.R_reads' HO_9.out).2.2 a1 p573 q573
                     (try rw [← Nbq51.out] at hx573_0)
                     cases e573
                     replace p573 := eq_true p573
                     replace q573 := eq_true q573
                     obtain ⟨Ao74, co74, eo74⟩ := Kd.R_slice HO_11.out
                     (first | subst eo74 | (injection eo74 with f1_ f2_ f3_; have f4_ := f1_.symm; have f5_ := f3_.symm; clear f1_ f2_ f3_; subst f4_; subst f5_))
                     have p576 : 0 ≤ (a2 : Int) := of_decide_eq_true (by first | (with_reducible assumption) | assumption)
                     have q576 : a2 < (t567.length : Int) := of_decide_eq_true (by first | (with_reducible assumption) | assumption)
                     obtain ⟨ad576, e576, hx576_0⟩ := Kd.at_int (Kd.R_reads' HO_11.out).2.2 a2 p576 q576
                     cases e576
                     replace p576 := eq_true p576
                     replace q576 := eq_true q576
                     have p577 : 0 ≤ (a1 : Int) := of_decide_eq_true (by first | (with_reducible assumption) | assumption)
                     have q577 : a1 < (t567.length : Int) := of_decide_eq_true (by first | (with_reducible assumption) | assumption)
                     obtain ⟨ad577, e577, hx577_0⟩ := Kd.at_int (Kd.R_reads' HO_11.out).2.2 a1 p577 q577
                     obtain rfl : ad576 = ad577 := (by injection e577)
                     replace p577 := eq_true p577
                     replace q577 := eq_true q577
                     obtain ⟨Ao75, co75, eo75⟩ := Kd.R_slice HO_10.out
                     (first | subst eo75 | (injection eo75 with f1_ f2_ f3_; have f4_ := f1_.symm; have f5_ := f3_.symm; clear f1_ f2_ f3_; subst f4_; subst f5_))
                     refine start_ (n := 31) (S := fun w' => w'.cell? (ad573.add (a1).toNat) = some (.bool false) ∧ w'.cell? (ad576.add (a2).toNat) = some (.int .i64 (rd t567 a2)) ∧ w'.cell? (ad576.add (a1).toNat) = some (.int .i64 (rd t567 a1))) (ds := []) (mm [(31, false)]) (by kernel_rfl) rfl rfl ⟨hx573_0, hx576_0, hx577_0⟩ (fun hHeld => ?_); refine with_tabW bywashlaw12_RankEdge.tab15 bywashlaw12_RankEdge.bits15 (fun HT_ HW_ => ?_)
                     generalize wc.drew = w72 at HO_8 HO_9 HO_10 HO_11 HB hx573_0 hx576_0 hx577_0 hHeld ⊢
                     refine pure_ (i := 0) (N := some 90) (v := ?_) (a' := ?_) (mm [(1, true), (30, false)]) rfl rfl (any_of HT_.out (by kernel_rfl)) (fun _ _ _ h => h) (Or.inl ⟨by rfl, ?_⟩) ?_ ?_
                     rotate_left
                     ·
                      intro w'
                      go_simp
                      with_reducible rfl
                     rotate_left
                     ·
                      simp only [Act.put, za_, zb_, zc_, i64_w, i32_w]
                      rfl
                     refine pure_ (i := 1) (N := some 91) (v := ?_) (a' := ?_) (mm [(2, true), (29, false)]) rfl rfl (any_of HT_.out (by kernel_rfl)) (fun _ _ _ h => h) (Or.inl ⟨by rfl, ?_⟩) ?_ ?_
                     rotate_left
                     ·
                      intro w'
                      go_simp
                      with_reducible rfl
                     rotate_left
                     ·
                      simp only [Act.put, za_, zb_, zc_, i64_w, i32_w]
                      rfl
                     refine pure_ (i := 2) (N := some 92) (v := ?_) (a' := ?_) (mm [(3, true), (28, false)]) rfl rfl (any_of HT_.out (by kernel_rfl)) (fun _ _ _ h => h) (Or.inl ⟨by rfl, ?_⟩) ?_ ?_
                     rotate_left
                     ·
                      intro w'
                      go_simp
                      with_reducible rfl
                     rotate_left
                     ·
                      simp only [Act.put, za_, zb_, zc_, i64_w, i32_w]
                      rfl
                     refine pure_ (i := 3) (N := some 93) (v := ?_) (a' := ?_) (mm [(4, true), (27, false)]) rfl rfl (any_of HT_.out (by kernel_rfl)) (fun _ _ _ h => h) (Or.inl ⟨by rfl, ?_⟩) ?_ ?_
                     rotate_left
                     ·
                      intro w'
                      go_simp
                      with_reducible rfl
                     rotate_left
                     ·
                      simp only [Act.put, za_, zb_, zc_, i64_w, i32_w]
                      rfl
                     refine pure_ (i := 4) (N := some 94) (v := ?_) (a' := ?_) (mm [(5, true), (26, false)]) rfl rfl (any_of HT_.out (by kernel_rfl)) (fun _ _ _ h => h) (Or.inl ⟨by rfl, ?_⟩) ?_ ?_
                     rotate_left
                     ·
                      intro w'
                      go_simp
                      with_reducible rfl
                     rotate_left
                     ·
                      simp only [Act.put, za_, zb_, zc_, i64_w, i32_w]
                      rfl
                     refine take_ (i := 5) (N := some 95) (v := ?_) (a' := ?_) (mm [(6, true), (25, false)]) rfl rfl (take_ofW HT_.out HW_.out (by kernel_rfl)) (fun _ _ _ h => h) (Or.inl ⟨by rfl, ?_⟩) hHeld ?_ ?_
                     rotate_left
                     ·
                      rintro w' ⟨s0, s1, s2⟩
                      go_simp
                      with_reducible rfl
                     rotate_left
                     ·
                      simp only [Act.put, za_, zb_, zc_, i64_w, i32_w]
                      rfl
                     refine pure_ (i := 6) (N := some 96) (v := ?_) (a' := ?_) (mm [(7, true), (24, false)]) rfl rfl (any_of HT_.out (by kernel_rfl)) (fun _ _ _ h => h) (Or.inl ⟨by rfl, ?_⟩) ?_ ?_
                     rotate_left
                     ·
                      intro w'
                      go_simp
                      with_reducible rfl
                     rotate_left
                     ·
                      simp only [Act.put, za_, zb_, zc_, i64_w, i32_w]
                      rfl
                     refine pure_ (i := 7) (N := some 97) (v := ?_) (a' := ?_) (mm [(8, true), (23, false)]) rfl rfl (any_of HT_.out (by kernel_rfl)) (fun _ _ _ h => h) (Or.inl ⟨by rfl, ?_⟩) ?_ ?_
                     rotate_left
                     ·
                      intro w'
                      go_simp
                      with_reducible rfl
                     rotate_left
                     ·
                      simp only [Act.put, za_, zb_, zc_, i64_w, i32_w]
                      rfl
                     refine pure_ (i := 8) (N := some 98) (v := ?_) (a' := ?_) (mm [(9, true), (22, false)]) rfl rfl (any_of HT_.out (by kernel_rfl)) (fun _ _ _ h => h) (Or.inl ⟨by rfl, ?_⟩) ?_ ?_
                     rotate_left
                     ·
                      intro w'
                      go_simp
                      with_reducible rfl
                     rotate_left
                     ·
                      simp only [Act.put, za_, zb_, zc_, i64_w, i32_w]
                      rfl
                     refine pure_ (i := 9) (N := some 99) (v := ?_) (a' := ?_) (mm [(10, true), (21, false)]) rfl rfl (any_of HT_.out (by kernel_rfl)) (fun _ _ _ h => h) (Or.inl ⟨by rfl, ?_⟩) ?_ ?_
                     rotate_left
                     ·
                      intro w'
                      go_simp
                      with_reducible rfl
                     rotate_left
                     ·
                      simp only [Act.put, za_, zb_, zc_, i64_w, i32_w]
                      rfl
                     refine pure_ (i := 11) (N := some 101) (v := ?_) (a' := ?_) (mm [(10, true), (1, false), (1, true), (19, false)]) rfl rfl (any_of HT_.out (by kernel_rfl)) (fun _ _ _ h => h) (Or.inl ⟨by rfl, ?_⟩) ?_ ?_
                     rotate_left
                     ·
                      intro w'
                      go_simp
                      with_reducible rfl
                     rotate_left
                     ·
                      simp only [Act.put, za_, zb_, zc_, i64_w, i32_w]
                      rfl
                     refine pure_ (i := 12) (N := some 102) (v := ?_) (a' := ?_) (mm [(10, true), (1, false), (2, true), (18, false)]) rfl rfl (any_of HT_.out (by kernel_rfl)) (fun _ _ _ h => h) (Or.inl ⟨by rfl, ?_⟩) ?_ ?_
                     rotate_left
                     ·
                      intro w'
                      go_simp
                      with_reducible rfl
                     rotate_left
                     ·
                      simp only [Act.put, za_, zb_, zc_, i64_w, i32_w]
                      rfl
                     refine pure_ (i := 13) (N := some 103) (v := ?_) (a' := ?_) (mm [(10, true), (1, false), (3, true), (17, false)]) rfl rfl (any_of HT_.out (by kernel_rfl)) (fun _ _ _ h => h) (Or.inl ⟨by rfl, ?_⟩) ?_ ?_
                     rotate_left
                     ·
                      intro w'
                      go_simp
                      with_reducible rfl
                     rotate_left
                     ·
                      simp only [Act.put, za_, zb_, zc_, i64_w, i32_w]
                      rfl
                     refine take_ (i := 10) (N := some 100) (v := ?_) (a' := ?_) (mm [(14, true), (17, false)]) rfl rfl (take_ofW HT_.out HW_.out (by kernel_rfl)) (fun _ _ _ h => h) (Or.inl ⟨by rfl, ?_⟩) hHeld ?_ ?_
                     rotate_left
                     ·
                      rintro w' ⟨s0, s1, s2⟩
                      go_simp
                      with_reducible rfl
                     rotate_left
                     ·
                      simp only [Act.put, za_, zb_, zc_, i64_w, i32_w]
                      rfl
                     refine take_ (i := 14) (N := some 104) (v := ?_) (a' := ?_) (mm [(15, true), (16, false)]) rfl rfl (take_ofW HT_.out HW_.out (by kernel_rfl)) (fun _ _ _ h => h) (Or.inl ⟨by rfl, ?_⟩) hHeld ?_ ?_
                     rotate_left
                     ·
                      rintro w' ⟨s0, s1, s2⟩
                      go_simp
                      with_reducible rfl
                     rotate_left
                     ·
                      simp only [Act.put, za_, zb_, zc_, i64_w, i32_w]
                      rfl
                     refine pure_ (i := 15) (N := some 105) (v := ?_) (a' := ?_) (mm [(16, true), (15, false)]) rfl rfl (any_of HT_.out (by kernel_rfl)) (fun _ _ _ h => h) (Or.inl ⟨by rfl, ?_⟩) ?_ ?_
                     rotate_left
                     ·
                      intro w'
                      go_simp
                      with_reducible rfl
                     rotate_left
                     ·
                      simp only [Act.put, za_, zb_, zc_, i64_w, i32_w]
                      rfl
                     refine pure_ (i := 16) (N := some 106) (v := ?_) (a' := ?_) (mm [(17, true), (14, false)]) rfl rfl (any_of HT_.out (by kernel_rfl)) (fun _ _ _ h => h) (Or.inl ⟨by rfl, ?_⟩) ?_ ?_
                     rotate_left
                     ·
                      intro w'
                      go_simp
                      with_reducible rfl
                     rotate_left
                     ·
                      simp only [Act.put, za_, zb_, zc_, i64_w, i32_w]
                      rfl
                     refine pure_ (i := 17) (N := some 107) (v := ?_) (a' := ?_) (mm [(18, true), (13, false)]) rfl rfl (any_of HT_.out (by kernel_rfl)) (fun _ _ _ h => h) (Or.inl ⟨by rfl, ?_⟩) ?_ ?_
                     rotate_left
                     ·
                      intro w'
                      go_simp
                      with_reducible rfl
                     rotate_left
                     ·
                      simp only [Act.put, za_, zb_, zc_, i64_w, i32_w]
                      rfl
                     refine pure_ (i := 18) (N := some 108) (v := ?_) (a' := ?_) (mm [(19, true), (12, false)]) rfl rfl (any_of HT_.out (by kernel_rfl)) (fun _ _ _ h => h) (Or.inl ⟨by rfl, ?_⟩) ?_ ?_
                     rotate_left
                     ·
                      intro w'
                      go_simp
                      with_reducible rfl
                     rotate_left
                     ·
                      simp only [Act.put, za_, zb_, zc_, i64_w, i32_w]
                      rfl
                     refine pure_ (i := 19) (N := some 109) (v := ?_) (a' := ?_) (mm [(20, true), (11, false)]) rfl rfl (any_of HT_.out (by kernel_rfl)) (fun _ _ _ h => h) (Or.inl ⟨by rfl, ?_⟩) ?_ ?_
                     rotate_left
                     ·
                      intro w'
                      go_simp
                      with_reducible rfl
                     rotate_left
                     ·
                      simp only [Act.put, za_, zb_, zc_, i64_w, i32_w]
                      rfl
                     refine pure_ (i := 20) (N := some 110) (v := ?_) (a' := ?_) (mm [(21, true), (10, false)]) rfl rfl (any_of HT_.out (by kernel_rfl)) (fun _ _ _ h => h) (Or.inl ⟨by rfl, ?_⟩) ?_ ?_
                     rotate_left
                     ·
                      intro w'
                      go_simp
                      with_reducible rfl
                     rotate_left
                     ·
                      simp only [Act.put, za_, zb_, zc_, i64_w, i32_w]
                      rfl
                     refine pure_ (i := 21) (N := some 111) (v := ?_) (a' := ?_) (mm [(22, true), (9, false)]) rfl rfl (any_of HT_.out (by kernel_rfl)) (fun _ _ _ h => h) (Or.inl ⟨by rfl, ?_⟩) ?_ ?_
                     rotate_left
                     ·
                      intro w'
                      go_simp
                      with_reducible rfl
                     rotate_left
                     ·
                      simp only [Act.put, za_, zb_, zc_, i64_w, i32_w]
                      rfl
                     refine one_ (i := 22) (N := some 112) (mm [(23, true), (8, false)]) rfl rfl (one_of HT_.out (by kernel_rfl)) (by decide) (fun K hK => ?_)
                     refine goes_ Try.func49 (by kernel_rfl) rfl #[.slice Ao21 t558.length co21, .slice Ao75 t564.length co75] (by rfl) rfl rfl (by (try simp only [List.map_toArray, List.map_cons, List.map_nil]); first | done | rfl | (simp only [List.length_drop, List.length_take]; rfl)) ?_
                     with_reducible refine (rank_Sound.calls _ _ t558 _ _ t564 true _ ?side1 ?side2 ?side3 ?side4 A69.out).mono ?_
                     (case side1 => repeat (first | exact (Kd.S_reads' HO_8.out).2.2 | (with_reducible refine Kd.C_alloc ?_ _) | (with_reducible refine Kd.C_drewN ?_ _) | (with_reducible refine Kd.C_drew ?_)))
                     (case side2 => exact (Kd.S_reads' HO_8.out).2.1)
                     (case side3 => repeat (first | exact (Kd.R_reads' HO_10.out).2.2 | (with_reducible refine Kd.C_alloc ?_ _) | (with_reducible refine Kd.C_drewN ?_ _) | (with_reducible refine Kd.C_drew ?_)))
                     (case side4 => exact (Kd.R_reads' HO_10.out).2.1)
                     rintro e w76 ⟨rfl, hb⟩
                     have HS0_ := (hb.cell (World.block_lt_of_cell? _ _ (hHeld.1))).trans (hHeld.1)
                     have HS1_ := (hb.cell (World.block_lt_of_cell? _ _ (hHeld.2.1))).trans (hHeld.2.1)
                     have HS2_ := (hb.cell (World.block_lt_of_cell? _ _ (hHeld.2.2))).trans (hHeld.2.2)
                     refine ⟨_, rfl, ?_⟩
                     have n0_ := Aside0.mk (Kd.S_below (by (with_reducible repeat (first | apply Kd.S_alloc | apply Kd.S_drewN | apply Kd.S_drew)); exact HO_8.out) hb)
                     have n1_ := Aside0.mk (Kd.R_below (by (with_reducible repeat (first | apply Kd.R_alloc | apply Kd.R_drewN | apply Kd.R_drew)); exact HO_9.out) hb)
                     have n2_ := Aside0.mk (Kd.R_below (by (with_reducible repeat (first | apply Kd.R_alloc | apply Kd.R_drewN | apply Kd.R_drew)); exact HO_10.out) hb)
                     have n3_ := Aside0.mk (Kd.R_below (by (with_reducible repeat (first | apply Kd.R_alloc | apply Kd.R_drewN | apply Kd.R_drew)); exact HO_11.out) hb)
                     have n4_ := Aside0.mk (below_step (by repeat (first | (with_reducible first | exact HB.out | apply below_alloc | apply pw_below_drewN | apply below_drew1) | exact HB.out)) hb)
                     clear HO_8 HO_9 HO_10 HO_11 HB
                     have HO_8 := n0_
                     have HO_9 := n1_
                     have HO_10 := n2_
                     have HO_11 := n3_
                     have HB := n4_
                     clear n0_ n1_ n2_ n3_ n4_
                     (try clear hb)
                     (try clear hb2)
                     (try clear hk)
                     (try clear hi)
                     refine hK.out _ _ ⟨HS0_, HS1_, HS2_⟩ (fun hHeld => ?_)
                     clear hK K
                     refine norm_ (a' := ?_) ?_ ?_
                     rotate_left
                     ·
                      show Act.put _ (some 112) _ = _
                      simp only [Act.put, za_, zb_, zc_, i64_w, i32_w]
                      rfl
                     refine pure_ (i := 23) (N := some 113) (v := ?_) (a' := ?_) (mm [(24, true), (7, false)]) rfl rfl (any_of HT_.out (by kernel_rfl)) (fun _ _ _ h => h) (Or.inl ⟨by rfl, ?_⟩) ?_ ?_
                     rotate_left
                     ·
                      intro w'
                      go_simp
                      with_reducible rfl
                     rotate_left
                     ·
                      simp only [Act.put, za_, zb_, zc_, i64_w, i32_w]
                      rfl
                     refine pure_ (i := 24) (N := some 114) (v := ?_) (a' := ?_) (mm [(25, true), (6, false)]) rfl rfl (any_of HT_.out (by kernel_rfl)) (fun _ _ _ h => h) (Or.inl ⟨by rfl, ?_⟩) ?_ ?_
                     rotate_left
                     ·
                      intro w'
                      go_simp
                      with_reducible rfl
                     rotate_left
                     ·
                      simp only [Act.put, za_, zb_, zc_, i64_w, i32_w]
                      rfl
                     refine pure_ (i := 25) (N := some 115) (v := ?_) (a' := ?_) (mm [(26, true), (5, false)]) rfl rfl (any_of HT_.out (by kernel_rfl)) (fun _ _ _ h => h) (Or.inl ⟨by rfl, ?_⟩) ?_ ?_
                     rotate_left
                     ·
                      intro w'
                      go_simp
                      with_reducible rfl
                     rotate_left
                     ·
                      simp only [Act.put, za_, zb_, zc_, i64_w, i32_w]
                      rfl
                     refine pure_ (i := 26) (N := some 116) (v := ?_) (a' := ?_) (mm [(27, true), (4, false)]) rfl rfl (any_of HT_.out (by kernel_rfl)) (fun _ _ _ h => h) (Or.inl ⟨by rfl, ?_⟩) ?_ ?_
                     rotate_left
                     ·
                      intro w'
                      go_simp
                      with_reducible rfl
                     rotate_left
                     ·
                      simp only [Act.put, za_, zb_, zc_, i64_w, i32_w]
                      rfl
                     refine one_ (i := 27) (N := some 117) (mm [(28, true), (3, false)]) rfl rfl (one_of HT_.out (by kernel_rfl)) (by decide) (fun K hK => ?_)
                     refine goes_ Try.func49 (by kernel_rfl) rfl #[.slice A0 l0.length c0, .slice Ao75 t564.length co75] (by rfl) rfl rfl (by (try simp only [List.map_toArray, List.map_cons, List.map_nil]); first | done | rfl | (simp only [List.length_drop, List.length_take]; rfl)) ?_
                     with_reducible refine (rank_Sound.calls _ _ l0 _ _ t564 t579 _ ?side1 ?side2 ?side3 ?side4 A71.out).mono ?_
                     (case side1 => repeat (first | exact (Kd.C_below HR0.out HB.out) | (with_reducible refine Kd.C_alloc ?_ _) | (with_reducible refine Kd.C_drewN ?_ _) | (with_reducible refine Kd.C_drew ?_)))
                     (case side2 => exact HC0.out)
                     (case side3 => repeat (first | exact (Kd.R_reads' HO_10.out).2.2 | (with_reducible refine Kd.C_alloc ?_ _) | (with_reducible refine Kd.C_drewN ?_ _) | (with_reducible refine Kd.C_drew ?_)))
                     (case side4 => exact (Kd.R_reads' HO_10.out).2.1)
                     rintro e w77 ⟨rfl, hb⟩
                     have HS0_ := (hb.cell (World.block_lt_of_cell? _ _ (hHeld.1))).trans (hHeld.1)
                     have HS1_ := (hb.cell (World.block_lt_of_cell? _ _ (hHeld.2.1))).trans (hHeld.2.1)
                     have HS2_ := (hb.cell (World.block_lt_of_cell? _ _ (hHeld.2.2))).trans (hHeld.2.2)
                     refine ⟨_, rfl, ?_⟩
                     have n0_ := Aside0.mk (Kd.S_below (by (with_reducible repeat (first | apply Kd.S_alloc | apply Kd.S_drewN | apply Kd.S_drew)); exact HO_8.out) hb)
                     have n1_ := Aside0.mk (Kd.R_below (by (with_reducible repeat (first | apply Kd.R_alloc | apply Kd.R_drewN | apply Kd.R_drew)); exact HO_9.out) hb)
                     have n2_ := Aside0.mk (Kd.R_below (by (with_reducible repeat (first | apply Kd.R_alloc | apply Kd.R_drewN | apply Kd.R_drew)); exact HO_10.out) hb)
                     have n3_ := Aside0.mk (Kd.R_below (by (with_reducible repeat (first | apply Kd.R_alloc | apply Kd.R_drewN | apply Kd.R_drew)); exact HO_11.out) hb)
                     have n4_ := Aside0.mk (below_step (by repeat (first | (with_reducible first | exact HB.out | apply below_alloc | apply pw_below_drewN | apply below_drew1) | exact HB.out)) hb)
                     clear HO_8 HO_9 HO_10 HO_11 HB
                     have HO_8 := n0_
                     have HO_9 := n1_
                     have HO_10 := n2_
                     have HO_11 := n3_
                     have HB := n4_
                     clear n0_ n1_ n2_ n3_ n4_
                     (try clear hb)
                     (try clear hb2)
                     (try clear hk)
                     (try clear hi)
                     refine hK.out _ _ ⟨HS0_, HS1_, HS2_⟩ (fun hHeld => ?_)
                     clear hK K
                     refine norm_ (a' := ?_) ?_ ?_
                     rotate_left
                     ·
                      show Act.put _ (some 117) _ = _
                      simp only [Act.put, za_, zb_, zc_, i64_w, i32_w]
                      rfl
                     refine pure_ (i := 28) (N := some 118) (v := ?_) (a' := ?_) (mm [(29, true), (2, false)]) rfl rfl (any_of HT_.out (by kernel_rfl)) (fun _ _ _ h => h) (Or.inl ⟨by rfl, ?_⟩) ?_ ?_
                     rotate_left
                     ·
                      intro w'
                      go_simp
                      with_reducible rfl
                     rotate_left
                     ·
                      simp only [Act.put, za_, zb_, zc_, i64_w, i32_w]
                      rfl
                     refine pure_ (i := 29) (N := some 119) (v := ?_) (a' := ?_) (mm [(30, true), (1, false)]) rfl rfl (any_of HT_.out (by kernel_rfl)) (fun _ _ _ h => h) (Or.inl ⟨by rfl, ?_⟩) ?_ ?_
                     rotate_left
                     ·
                      intro w'
                      go_simp
                      with_reducible rfl
                     rotate_left
                     ·
                      simp only [Act.put, za_, zb_, zc_, i64_w, i32_w]
                      rfl
                     refine pure_ (i := 30) (N := some 6) (v := ?_) (a' := ?_) (mm [(31, true)]) rfl rfl (any_of HT_.out (by kernel_rfl)) (fun _ _ _ h => h) (Or.inl ⟨by rfl, ?_⟩) ?_ ?_
                     rotate_left
                     ·
                      intro w'
                      go_simp
                      with_reducible rfl
                     rotate_left
                     ·
                      simp only [Act.put, za_, zb_, zc_, i64_w, i32_w]
                      rfl
                     refine done_ (done_of HT_.out (by kernel_rfl)) ?_
                     try go_wp2
                     go_ret
                     exact ⟨by first | rfl | (simp [errW_none, errW_some] <;> rfl) | (simp [*, errW_none, errW_some] <;> rfl) | (exfalso; (try simp_all); (try omega); done), by repeat (first | (with_reducible first | exact HB.out | apply below_alloc | apply pw_below_drewN | apply below_drew1) | exact HB.out)⟩
                    ·
                     replace c70 := Bool.eq_false_iff.mpr c70
                     subst c70
                     have H1 : (some true) = some r := by rw [if_neg (show ¬ (false = true) by decide)] at H; exact H
                     clear H
                     have H := H1
                     clear H1
                     obtain rfl := Option.some.inj H
                     try go_wp2
                     have n0_ := Aside0.mk (Kd.S_drew HO_8.out)
                     have n1_ := Aside0.mk (Kd.R_drew HO_9.out)
                     have n2_ := Aside0.mk (Kd.R_drew HO_10.out)
                     have n3_ := Aside0.mk (Kd.R_drew HO_11.out)
                     have n4_ := Aside0.mk (below_drew1 HB.out)
                     clear HO_8 HO_9 HO_10 HO_11 HB
                     have HO_8 := n0_
                     have HO_9 := n1_
                     have HO_10 := n2_
                     have HO_11 := n3_
                     have HB := n4_
                     clear n0_ n1_ n2_ n3_ n4_
                     obtain ⟨Ao79, co79, eo79⟩ := Kd.R_slice HO_9.out
                     (first | subst eo79 | (injection eo79 with f1_ f2_ f3_; have f4_ := f1_.symm; have f5_ := f3_.symm; clear f1_ f2_ f3_; subst f4_; subst f5_))
                     have p573 : 0 ≤ (a1 : Int) := of_decide_eq_true (by first | (with_reducible assumption) | assumption)
                     have q573 : a1 < (t561.length : Int) := of_decide_eq_true (by first | (with_reducible assumption) | assumption)
                     obtain ⟨ad573, e573, hx573_0⟩ := Kd.at_bool (Kd.R_reads' HO_9.out).2.2 a1 p573 q573
                     (try rw [← Nbq51.out] at hx573_0)
                     cases e573
                     replace p573 := eq_true p573
                     replace q573 := eq_true q573
                     obtain ⟨Ao80, co80, eo80⟩ := Kd.R_slice HO_11.out
                     (first | subst eo80 | (injection eo80 with f1_ f2_ f3_; have f4_ := f1_.symm; have f5_ := f3_.symm; clear f1_ f2_ f3_; subst f4_; subst f5_))
                     have p576 : 0 ≤ (a2 : Int) := of_decide_eq_true (by first | (with_reducible assumption) | assumption)
                     have q576 : a2 < (t567.length : Int) := of_decide_eq_true (by first | (with_reducible assumption) | assumption)
                     obtain ⟨ad576, e576, hx576_0⟩ := Kd.at_int (Kd.R_reads' HO_11.out).2.2 a2 p576 q576
                     cases e576
                     replace p576 := eq_true p576
                     replace q576 := eq_true q576
                     have p577 : 0 ≤ (a1 : Int) := of_decide_eq_true (by first | (with_reducible assumption) | assumption)
                     have q577 : a1 < (t567.length : Int) := of_decide_eq_true (by first | (with_reducible assumption) | assumption)
                     obtain ⟨ad577, e577, hx577_0⟩ := Kd.at_int (Kd.R_reads' HO_11.out).2.2 a1 p577 q577
                     obtain rfl : ad576 = ad577 := (by injection e577)
                     replace p577 := eq_true p577
                     replace q577 := eq_true q577
                     obtain ⟨Ao81, co81, eo81⟩ := Kd.R_slice HO_10.out
                     (first | subst eo81 | (injection eo81 with f1_ f2_ f3_; have f4_ := f1_.symm; have f5_ := f3_.symm; clear f1_ f2_ f3_; subst f4_; subst f5_))
                     refine start_ (n := 31) (S := fun w' => w'.cell? (ad573.add (a1).toNat) = some (.bool false) ∧ w'.cell? (ad576.add (a2).toNat) = some (.int .i64 (rd t567 a2)) ∧ w'.cell? (ad576.add (a1).toNat) = some (.int .i64 (rd t567 a1))) (ds := []) (mm [(31, false)]) (by kernel_rfl) rfl rfl ⟨hx573_0, hx576_0, hx577_0⟩ (fun hHeld => ?_); refine with_tabW bywashlaw12_RankEdge.tab15 bywashlaw12_RankEdge.bits15 (fun HT_ HW_ => ?_)
                     generalize wc.drew = w78 at HO_8 HO_9 HO_10 HO_11 HB hx573_0 hx576_0 hx577_0 hHeld ⊢
                     refine pure_ (i := 0) (N := some 90) (v := ?_) (a' := ?_) (mm [(1, true), (30, false)]) rfl rfl (any_of HT_.out (by kernel_rfl)) (fun _ _ _ h => h) (Or.inl ⟨by rfl, ?_⟩) ?_ ?_
                     rotate_left
                     ·
                      intro w'
                      go_simp
                      with_reducible rfl
                     rotate_left
                     ·
                      simp only [Act.put, za_, zb_, zc_, i64_w, i32_w]
                      rfl
                     refine pure_ (i := 1) (N := some 91) (v := ?_) (a' := ?_) (mm [(2, true), (29, false)]) rfl rfl (any_of HT_.out (by kernel_rfl)) (fun _ _ _ h => h) (Or.inl ⟨by rfl, ?_⟩) ?_ ?_
                     rotate_left
                     ·
                      intro w'
                      go_simp
                      with_reducible rfl
                     rotate_left
                     ·
                      simp only [Act.put, za_, zb_, zc_, i64_w, i32_w]
                      rfl
                     refine pure_ (i := 2) (N := some 92) (v := ?_) (a' := ?_) (mm [(3, true), (28, false)]) rfl rfl (any_of HT_.out (by kernel_rfl)) (fun _ _ _ h => h) (Or.inl ⟨by rfl, ?_⟩) ?_ ?_
                     rotate_left
                     ·
                      intro w'
                      go_simp
                      with_reducible rfl
                     rotate_left
                     ·
                      simp only [Act.put, za_, zb_, zc_, i64_w, i32_w]
                      rfl
                     refine pure_ (i := 3) (N := some 93) (v := ?_) (a' := ?_) (mm [(4, true), (27, false)]) rfl rfl (any_of HT_.out (by kernel_rfl)) (fun _ _ _ h => h) (Or.inl ⟨by rfl, ?_⟩) ?_ ?_
                     rotate_left
                     ·
                      intro w'
                      go_simp
                      with_reducible rfl
                     rotate_left
                     ·
                      simp only [Act.put, za_, zb_, zc_, i64_w, i32_w]
                      rfl
                     refine pure_ (i := 4) (N := some 94) (v := ?_) (a' := ?_) (mm [(5, true), (26, false)]) rfl rfl (any_of HT_.out (by kernel_rfl)) (fun _ _ _ h => h) (Or.inl ⟨by rfl, ?_⟩) ?_ ?_
                     rotate_left
                     ·
                      intro w'
                      go_simp
                      with_reducible rfl
                     rotate_left
                     ·
                      simp only [Act.put, za_, zb_, zc_, i64_w, i32_w]
                      rfl
                     refine take_ (i := 5) (N := some 95) (v := ?_) (a' := ?_) (mm [(6, true), (25, false)]) rfl rfl (take_ofW HT_.out HW_.out (by kernel_rfl)) (fun _ _ _ h => h) (Or.inl ⟨by rfl, ?_⟩) hHeld ?_ ?_
                     rotate_left
                     ·
                      rintro w' ⟨s0, s1, s2⟩
                      go_simp
                      with_reducible rfl
                     rotate_left
                     ·
                      simp only [Act.put, za_, zb_, zc_, i64_w, i32_w]
                      rfl
                     refine pure_ (i := 6) (N := some 96) (v := ?_) (a' := ?_) (mm [(7, true), (24, false)]) rfl rfl (any_of HT_.out (by kernel_rfl)) (fun _ _ _ h => h) (Or.inl ⟨by rfl, ?_⟩) ?_ ?_
                     rotate_left
                     ·
                      intro w'
                      go_simp
                      with_reducible rfl
                     rotate_left
                     ·
                      simp only [Act.put, za_, zb_, zc_, i64_w, i32_w]
                      rfl
                     refine pure_ (i := 7) (N := some 97) (v := ?_) (a' := ?_) (mm [(8, true), (23, false)]) rfl rfl (any_of HT_.out (by kernel_rfl)) (fun _ _ _ h => h) (Or.inl ⟨by rfl, ?_⟩) ?_ ?_
                     rotate_left
                     ·
                      intro w'
                      go_simp
                      with_reducible rfl
                     rotate_left
                     ·
                      simp only [Act.put, za_, zb_, zc_, i64_w, i32_w]
                      rfl
                     refine pure_ (i := 8) (N := some 98) (v := ?_) (a' := ?_) (mm [(9, true), (22, false)]) rfl rfl (any_of HT_.out (by kernel_rfl)) (fun _ _ _ h => h) (Or.inl ⟨by rfl, ?_⟩) ?_ ?_
                     rotate_left
                     ·
                      intro w'
                      go_simp
                      with_reducible rfl
                     rotate_left
                     ·
                      simp only [Act.put, za_, zb_, zc_, i64_w, i32_w]
                      rfl
                     refine pure_ (i := 9) (N := some 99) (v := ?_) (a' := ?_) (mm [(10, true), (21, false)]) rfl rfl (any_of HT_.out (by kernel_rfl)) (fun _ _ _ h => h) (Or.inl ⟨by rfl, ?_⟩) ?_ ?_
                     rotate_left
                     ·
                      intro w'
                      go_simp
                      with_reducible rfl
                     rotate_left
                     ·
                      simp only [Act.put, za_, zb_, zc_, i64_w, i32_w]
                      rfl
                     refine pure_ (i := 11) (N := some 101) (v := ?_) (a' := ?_) (mm [(10, true), (1, false), (1, true), (19, false)]) rfl rfl (any_of HT_.out (by kernel_rfl)) (fun _ _ _ h => h) (Or.inl ⟨by rfl, ?_⟩) ?_ ?_
                     rotate_left
                     ·
                      intro w'
                      go_simp
                      with_reducible rfl
                     rotate_left
                     ·
                      simp only [Act.put, za_, zb_, zc_, i64_w, i32_w]
                      rfl
                     refine pure_ (i := 12) (N := some 102) (v := ?_) (a' := ?_) (mm [(10, true), (1, false), (2, true), (18, false)]) rfl rfl (any_of HT_.out (by kernel_rfl)) (fun _ _ _ h => h) (Or.inl ⟨by rfl, ?_⟩) ?_ ?_
                     rotate_left
                     ·
                      intro w'
                      go_simp
                      with_reducible rfl
                     rotate_left
                     ·
                      simp only [Act.put, za_, zb_, zc_, i64_w, i32_w]
                      rfl
                     refine pure_ (i := 13) (N := some 103) (v := ?_) (a' := ?_) (mm [(10, true), (1, false), (3, true), (17, false)]) rfl rfl (any_of HT_.out (by kernel_rfl)) (fun _ _ _ h => h) (Or.inl ⟨by rfl, ?_⟩) ?_ ?_
                     rotate_left
                     ·
                      intro w'
                      go_simp
                      with_reducible rfl
                     rotate_left
                     ·
                      simp only [Act.put, za_, zb_, zc_, i64_w, i32_w]
                      rfl
                     refine take_ (i := 10) (N := some 100) (v := ?_) (a' := ?_) (mm [(14, true), (17, false)]) rfl rfl (take_ofW HT_.out HW_.out (by kernel_rfl)) (fun _ _ _ h => h) (Or.inl ⟨by rfl, ?_⟩) hHeld ?_ ?_
                     rotate_left
                     ·
                      rintro w' ⟨s0, s1, s2⟩
                      go_simp
                      with_reducible rfl
                     rotate_left
                     ·
                      simp only [Act.put, za_, zb_, zc_, i64_w, i32_w]
                      rfl
                     refine take_ (i := 14) (N := some 104) (v := ?_) (a' := ?_) (mm [(15, true), (16, false)]) rfl rfl (take_ofW HT_.out HW_.out (by kernel_rfl)) (fun _ _ _ h => h) (Or.inl ⟨by rfl, ?_⟩) hHeld ?_ ?_
                     rotate_left
                     ·
                      rintro w' ⟨s0, s1, s2⟩
                      go_simp
                      with_reducible rfl
                     rotate_left
                     ·
                      simp only [Act.put, za_, zb_, zc_, i64_w, i32_w]
                      rfl
                     refine pure_ (i := 15) (N := some 105) (v := ?_) (a' := ?_) (mm [(16, true), (15, false)]) rfl rfl (any_of HT_.out (by kernel_rfl)) (fun _ _ _ h => h) (Or.inl ⟨by rfl, ?_⟩) ?_ ?_
                     rotate_left
                     ·
                      intro w'
                      go_simp
                      with_reducible rfl
                     rotate_left
                     ·
                      simp only [Act.put, za_, zb_, zc_, i64_w, i32_w]
                      rfl
                     refine pure_ (i := 16) (N := some 106) (v := ?_) (a' := ?_) (mm [(17, true), (14, false)]) rfl rfl (any_of HT_.out (by kernel_rfl)) (fun _ _ _ h => h) (Or.inl ⟨by rfl, ?_⟩) ?_ ?_
                     rotate_left
                     ·
                      intro w'
                      go_simp
                      with_reducible rfl
                     rotate_left
                     ·
                      simp only [Act.put, za_, zb_, zc_, i64_w, i32_w]
                      rfl
                     refine pure_ (i := 17) (N := some 107) (v := ?_) (a' := ?_) (mm [(18, true), (13, false)]) rfl rfl (any_of HT_.out (by kernel_rfl)) (fun _ _ _ h => h) (Or.inl ⟨by rfl, ?_⟩) ?_ ?_
                     rotate_left
                     ·
                      intro w'
                      go_simp
                      with_reducible rfl
                     rotate_left
                     ·
                      simp only [Act.put, za_, zb_, zc_, i64_w, i32_w]
                      rfl
                     refine pure_ (i := 18) (N := some 108) (v := ?_) (a' := ?_) (mm [(19, true), (12, false)]) rfl rfl (any_of HT_.out (by kernel_rfl)) (fun _ _ _ h => h) (Or.inl ⟨by rfl, ?_⟩) ?_ ?_
                     rotate_left
                     ·
                      intro w'
                      go_simp
                      with_reducible rfl
                     rotate_left
                     ·
                      simp only [Act.put, za_, zb_, zc_, i64_w, i32_w]
                      rfl
                     refine pure_ (i := 19) (N := some 109) (v := ?_) (a' := ?_) (mm [(20, true), (11, false)]) rfl rfl (any_of HT_.out (by kernel_rfl)) (fun _ _ _ h => h) (Or.inl ⟨by rfl, ?_⟩) ?_ ?_
                     rotate_left
                     ·
                      intro w'
                      go_simp
                      with_reducible rfl
                     rotate_left
                     ·
                      simp only [Act.put, za_, zb_, zc_, i64_w, i32_w]
                      rfl
                     refine pure_ (i := 20) (N := some 110) (v := ?_) (a' := ?_) (mm [(21, true), (10, false)]) rfl rfl (any_of HT_.out (by kernel_rfl)) (fun _ _ _ h => h) (Or.inl ⟨by rfl, ?_⟩) ?_ ?_
                     rotate_left
                     ·
                      intro w'
                      go_simp
                      with_reducible rfl
                     rotate_left
                     ·
                      simp only [Act.put, za_, zb_, zc_, i64_w, i32_w]
                      rfl
                     refine pure_ (i := 21) (N := some 111) (v := ?_) (a' := ?_) (mm [(22, true), (9, false)]) rfl rfl (any_of HT_.out (by kernel_rfl)) (fun _ _ _ h => h) (Or.inl ⟨by rfl, ?_⟩) ?_ ?_
                     rotate_left
                     ·
                      intro w'
                      go_simp
                      with_reducible rfl
                     rotate_left
                     ·
                      simp only [Act.put, za_, zb_, zc_, i64_w, i32_w]
                      rfl
                     refine one_ (i := 22) (N := some 112) (mm [(23, true), (8, false)]) rfl rfl (one_of HT_.out (by kernel_rfl)) (by decide) (fun K hK => ?_)
                     refine goes_ Try.func49 (by kernel_rfl) rfl #[.slice Ao21 t558.length co21, .slice Ao81 t564.length co81] (by rfl) rfl rfl (by (try simp only [List.map_toArray, List.map_cons, List.map_nil]); first | done | rfl | (simp only [List.length_drop, List.length_take]; rfl)) ?_
                     with_reducible refine (rank_Sound.calls _ _ t558 _ _ t564 false _ ?side1 ?side2 ?side3 ?side4 A69.out).mono ?_
                     (case side1 => repeat (first | exact (Kd.S_reads' HO_8.out).2.2 | (with_reducible refine Kd.C_alloc ?_ _) | (with_reducible refine Kd.C_drewN ?_ _) | (with_reducible refine Kd.C_drew ?_)))
                     (case side2 => exact (Kd.S_reads' HO_8.out).2.1)
                     (case side3 => repeat (first | exact (Kd.R_reads' HO_10.out).2.2 | (with_reducible refine Kd.C_alloc ?_ _) | (with_reducible refine Kd.C_drewN ?_ _) | (with_reducible refine Kd.C_drew ?_)))
                     (case side4 => exact (Kd.R_reads' HO_10.out).2.1)
                     rintro e w82 ⟨rfl, hb⟩
                     have HS0_ := (hb.cell (World.block_lt_of_cell? _ _ (hHeld.1))).trans (hHeld.1)
                     have HS1_ := (hb.cell (World.block_lt_of_cell? _ _ (hHeld.2.1))).trans (hHeld.2.1)
                     have HS2_ := (hb.cell (World.block_lt_of_cell? _ _ (hHeld.2.2))).trans (hHeld.2.2)
                     refine ⟨_, rfl, ?_⟩
                     have n0_ := Aside0.mk (Kd.S_below (by (with_reducible repeat (first | apply Kd.S_alloc | apply Kd.S_drewN | apply Kd.S_drew)); exact HO_8.out) hb)
                     have n1_ := Aside0.mk (Kd.R_below (by (with_reducible repeat (first | apply Kd.R_alloc | apply Kd.R_drewN | apply Kd.R_drew)); exact HO_9.out) hb)
                     have n2_ := Aside0.mk (Kd.R_below (by (with_reducible repeat (first | apply Kd.R_alloc | apply Kd.R_drewN | apply Kd.R_drew)); exact HO_10.out) hb)
                     have n3_ := Aside0.mk (Kd.R_below (by (with_reducible repeat (first | apply Kd.R_alloc | apply Kd.R_drewN | apply Kd.R_drew)); exact HO_11.out) hb)
                     have n4_ := Aside0.mk (below_step (by repeat (first | (with_reducible first | exact HB.out | apply below_alloc | apply pw_below_drewN | apply below_drew1) | exact HB.out)) hb)
                     clear HO_8 HO_9 HO_10 HO_11 HB
                     have HO_8 := n0_
                     have HO_9 := n1_
                     have HO_10 := n2_
                     have HO_11 := n3_
                     have HB := n4_
                     clear n0_ n1_ n2_ n3_ n4_
                     (try clear hb)
                     (try clear hb2)
                     (try clear hk)
                     (try clear hi)
                     refine hK.out _ _ ⟨HS0_, HS1_, HS2_⟩ (fun hHeld => ?_)
                     clear hK K
                     refine norm_ (a' := ?_) ?_ ?_
                     rotate_left
                     ·
                      show Act.put _ (some 112) _ = _
                      simp only [Act.put, za_, zb_, zc_, i64_w, i32_w]
                      rfl
                     refine pure_ (i := 23) (N := some 113) (v := ?_) (a' := ?_) (mm [(24, true), (7, false)]) rfl rfl (any_of HT_.out (by kernel_rfl)) (fun _ _ _ h => h) (Or.inl ⟨by rfl, ?_⟩) ?_ ?_
                     rotate_left
                     ·
                      intro w'
                      go_simp
                      with_reducible rfl
                     rotate_left
                     ·
                      simp only [Act.put, za_, zb_, zc_, i64_w, i32_w]
                      rfl
                     refine pure_ (i := 24) (N := some 114) (v := ?_) (a' := ?_) (mm [(25, true), (6, false)]) rfl rfl (any_of HT_.out (by kernel_rfl)) (fun _ _ _ h => h) (Or.inl ⟨by rfl, ?_⟩) ?_ ?_
                     rotate_left
                     ·
                      intro w'
                      go_simp
                      with_reducible rfl
                     rotate_left
                     ·
                      simp only [Act.put, za_, zb_, zc_, i64_w, i32_w]
                      rfl
                     refine pure_ (i := 25) (N := some 115) (v := undef) (a' := ?_) (mm [(26, true), (5, false)]) rfl rfl (any_of HT_.out (by kernel_rfl)) (fun _ _ _ h => h) (Or.inr ⟨by rfl, rfl⟩) ?_ ?_
                     rotate_left
                     ·
                      simp only [Act.put, za_, zb_, zc_, i64_w, i32_w]
                      rfl
                     refine pure_ (i := 26) (N := some 116) (v := undef) (a' := ?_) (mm [(27, true), (4, false)]) rfl rfl (any_of HT_.out (by kernel_rfl)) (fun _ _ _ h => h) (Or.inr ⟨by rfl, rfl⟩) ?_ ?_
                     rotate_left
                     ·
                      simp only [Act.put, za_, zb_, zc_, i64_w, i32_w]
                      rfl
                     refine pure_ (i := 27) (N := some 117) (v := undef) (a' := ?_) (mm [(28, true), (3, false)]) rfl rfl (any_of HT_.out (by kernel_rfl)) (fun _ _ _ h => h) (Or.inr ⟨by rfl, rfl⟩) ?_ ?_
                     rotate_left
                     ·
                      simp only [Act.put, za_, zb_, zc_, i64_w, i32_w]
                      rfl
                     refine pure_ (i := 28) (N := some 118) (v := ?_) (a' := ?_) (mm [(29, true), (2, false)]) rfl rfl (any_of HT_.out (by kernel_rfl)) (fun _ _ _ h => h) (Or.inl ⟨by rfl, ?_⟩) ?_ ?_
                     rotate_left
                     ·
                      intro w'
                      go_simp
                      with_reducible rfl
                     rotate_left
                     ·
                      simp only [Act.put, za_, zb_, zc_, i64_w, i32_w]
                      rfl
                     refine pure_ (i := 29) (N := some 119) (v := ?_) (a' := ?_) (mm [(30, true), (1, false)]) rfl rfl (any_of HT_.out (by kernel_rfl)) (fun _ _ _ h => h) (Or.inl ⟨by rfl, ?_⟩) ?_ ?_
                     rotate_left
                     ·
                      intro w'
                      go_simp
                      with_reducible rfl
                     rotate_left
                     ·
                      simp only [Act.put, za_, zb_, zc_, i64_w, i32_w]
                      rfl
                     refine pure_ (i := 30) (N := some 6) (v := ?_) (a' := ?_) (mm [(31, true)]) rfl rfl (any_of HT_.out (by kernel_rfl)) (fun _ _ _ h => h) (Or.inl ⟨by rfl, ?_⟩) ?_ ?_
                     rotate_left
                     ·
                      intro w'
                      go_simp
                      with_reducible rfl
                     rotate_left
                     ·
                      simp only [Act.put, za_, zb_, zc_, i64_w, i32_w]
                      rfl
                     refine done_ (done_of HT_.out (by kernel_rfl)) ?_
                     try go_wp2
                     go_ret
                     exact ⟨by first | rfl | (simp [errW_none, errW_some] <;> rfl) | (simp [*, errW_none, errW_some] <;> rfl) | (exfalso; (try simp_all); (try omega); done), by repeat (first | (with_reducible first | exact HB.out | apply below_alloc | apply pw_below_drewN | apply below_drew1) | exact HB.out)⟩
                   ·
                    rw [if_neg c68] at H
                    exact absurd (Option.some.inj H) (by rw [HRT.out]; decide)
                  ·
                   rw [if_neg c67] at H
                   exact absurd H (by simp)
                 ·
                  rw [if_neg c66] at H
                  exact absurd H (by simp)
                ·
                 rw [if_neg c65] at H
                 exact absurd H (by simp)
              ·
               rw [if_neg c50] at H
               exact absurd H (by simp)
             ·
              rw [if_neg c49] at H
              exact absurd H (by simp)
            ·
             replace c48 := Bool.eq_false_iff.mpr c48
             subst c48
             have H1 : (some false) = some r := by rw [if_neg (show ¬ (false = true) by decide)] at H; exact H
             clear H
             have H := H1
             exact absurd (Option.some.inj H) (by rw [HRT.out]; decide)
end Go.Proofs.Ytdknhgbjgdmfkaa.P
namespace Go.Proofs.Ytdknhgbjgdmfkaa.P
open Go.RowKit Go.Lib Go.Proofs.YtdknhgbjgdmfkaaW.PrintWords Go.Proofs.YtdknhgbjgdmfkaaW.PrintMore
theorem sound_ranks {c : List (List Int)} {r : List Int} (hv : Valid c) (h : Rk c r) : soundB c r = true := by
  unfold soundB
  rw [List.all_eq_true]
  intro k hk
  have hk' := List.mem_range.1 hk
  rw [Bool.not_eq_true', List.any_eq_false]
  intro b hb
  unfold lessIn
  rw [decide_eq_true_iff]
  have hN : Node c (k : Int) := ⟨by omega, by omega⟩
  have := h.edge hv hN (b := b) (by unfold row; rw [Int.toNat_natCast]; exact hb)
  unfold rd at this
  rw [Int.toNat_natCast] at this
  omega
theorem sound_now {g : List (List Int)} {r : List Int} (hf : fits g = true) (hl : r.length = g.length) : rank_Sound.f g r = some (soundB (clean g) r) := by
  unfold rank_Sound.f
  rw [if_pos hl, if_pos hf]
section
variable {c : List (List Int)} {a b : Int} {x y : List Int}
theorem edge_same (hv : Valid c) (ha : Node c a) (hb : Node c b) (hn : ¬ Way c b a) {u v : Int} (hu : Node c u) (hvN : Node c v) (h1 : Way (withE c a b) u v) (h2 : Way (withE c a b) v u) : Way c u v ∧ Way c v u := by
  rcases (way_with hv ha hb hu).1 h1 with e1 | ⟨e1, e2⟩ <;> rcases (way_with hv ha hb hvN).1 h2 with f1 | ⟨f1, f2⟩
  · exact ⟨e1, f1⟩
  · exact absurd (f2.trans (e1.trans f1)) hn
  · exact absurd (e2.trans (f1.trans e1)) hn
  · exact absurd (f2.trans e1) hn
theorem edge_never (hv : Valid c) (ha : Node c a) (hb : Node c b) (hn : ¬ Way c b a) (hw : Valid (withE c a b)) (hx : Rk c x) (hy : Rk (withE c a b) y) : ∀ (m : Nat) (u : Int), Node c u → rd x u = (m : Int) → rd x u ≤ rd y u := by
  have hN : ∀ {u}, Node c u → Node (withE c a b) u := by intro u hu; unfold Node; rw [withE_len]; exact hu
  intro m
  induction m with
  | zero =>
    intro u hu e
    have := (hy.bound hw (hN hu)).1
    omega
  | succ m ih =>
    intro u hu e
    rcases hx.from_ hv hu with e0 | ⟨p, d, hp, hd, w1, w2, hnd, e1⟩
    · omega
    · have hdN := row_node hv hd
      have hpu := ih p hp (by omega)
      have hd' : d ∈ row (withE c a b) p := (mem_withE ha hb hp.1).2 (.inl hd)
      have hnd' : ¬ Way (withE c a b) d p := fun h => hnd (edge_same hv ha hb hn hp hdN (.edge hd') h).2
      have h1 := hy.rise hw (hN hp) hd' hnd'
      have h2 := hy.same hw (hN hu) (hN hdN) ((way_with hv ha hb hu).2 (.inl w1)) ((way_with hv ha hb hdN).2 (.inl w2))
      omega
theorem edge_up (hv : Valid c) (ha : Node c a) (hb : Node c b) (hn : ¬ Way c b a) (hw : Valid (withE c a b)) (hy : Rk (withE c a b) y) : rd y a + 1 ≤ rd y b := by
  have hN : ∀ {u}, Node c u → Node (withE c a b) u := by intro u hu; unfold Node; rw [withE_len]; exact hu
  refine hy.rise hw (hN ha) ((mem_withE ha hb ha.1).2 (.inr ⟨rfl, rfl⟩)) (fun h => ?_)
  rcases (way_with hv ha hb hb).1 h with e | ⟨e, _⟩
  · exact hn e
  · exact hn e
end
section
variable {g w : List (List Int)} {a b : Int} {f : List Bool} {x y : List Int}
theorem rankedge_end (_hn : g.length ≤ 900) (i : Int) (ha : 0 ≤ a ∧ a < (g.length : Int)) (hb : 0 ≤ b ∧ b < (g.length : Int)) (hf : f.length = g.length) (hy : y.length = g.length) (hyb : ∀ u, 0 ≤ u → u < (g.length : Int) → 0 ≤ rd y u ∧ rd y u ≤ 900)
    (hs1 : rank_Sound.f g x = some true) (t : Bool) (hs2 : rank_Sound.f w x = some t) (hup : rdOf false f a = false → rd y a + 1 ≤ rd y b) :
    Ev (fun k => bywashlaw12_RankEdge.j3 k g a b true w f x y i false) true := by
  obtain ⟨ha0, ha1⟩ := ha
  obtain ⟨hb0, hb1⟩ := hb
  have hfin : ((rank_Sound.f w x).bind fun t574 => if t574 = true then (rank_Sound.f g x).bind fun t575 => some t575 else some true) = some true := by
    rw [hs2, Option.bind_some]
    cases t
    · rfl
    · rw [if_pos rfl, hs1]
      rfl
  refine Ev.step (f := fun _ => some true) (fun k => ?_) (Ev.now _)
  rw [bywashlaw12_RankEdge.j3, if_neg (by simp), if_pos rfl, if_pos ha0, if_pos (by omega)]
  by_cases hfa : rdOf false f a = true
  · rw [if_pos hfa]
    exact hfin
  · rw [if_neg hfa]
    have h1 := hup (by simpa using hfa)
    have h2 := hyb a ha0 ha1
    rw [if_pos hb0, if_pos (by omega), if_pos (by omega), wrap_small (by omega), if_pos (by omega)]
    exact hfin
theorem rankedge_l0 (hn : g.length ≤ 900) (ha : 0 ≤ a ∧ a < (g.length : Int)) (hf : f.length = g.length) (hx : x.length = g.length) (hy : y.length = g.length)
    (hend : ∀ i, Ev (fun k => bywashlaw12_RankEdge.j3 k g a b true w f x y i false) true) (hle : rdOf false f a = false → ∀ u, 0 ≤ u → u < (g.length : Int) → rd x u ≤ rd y u) :
    ∀ d i : Nat, i + d = g.length → Ev (fun k => bywashlaw12_RankEdge.l0 k g a b true w f x y (i : Int)) true
  | 0, i, hd => by
    refine Ev.step (fun k => ?_) (hend (i : Int))
    rw [bywashlaw12_RankEdge.l0, if_neg (by omega)]
  | d + 1, i, hd => by
    by_cases hfa : rdOf false f a = true
    · refine Ev.step (fun k => ?_) (hend (i : Int))
      rw [bywashlaw12_RankEdge.l0, if_pos (by omega), if_pos ha.1, if_pos (by have := ha.2; omega), hfa]
      rfl
    · have hfa' : rdOf false f a = false := by simpa using hfa
      have ih := rankedge_l0 hn ha hf hx hy hend hle d (i + 1) (by omega)
      have h1 := hle hfa' (i : Int) (by omega) (by omega)
      refine Ev.step (f := fun k => bywashlaw12_RankEdge.j3 k g a b true w f x y (i : Int) true) (fun k => ?_) (Ev.step (fun k => ?_) ih)
      · rw [bywashlaw12_RankEdge.l0, if_pos (by omega), if_pos ha.1, if_pos (by have := ha.2; omega), hfa']
        rfl
      · rw [bywashlaw12_RankEdge.j3, if_pos rfl, if_pos (by omega), if_pos (by omega), if_pos (by omega), if_neg (by omega), wrap_succ (by omega)]
end
theorem few_withE {g : List (List Int)} (h : few g = true) (a b : Int) : few (withE (clean g) a b) = true := by
  have hg := few_iff.1 h
  have hl : (withE (clean g) a b).length = g.length := by rw [withE_len, clean_len]
  rw [few_iff]
  refine ⟨fun r hr => ?_, by omega⟩
  have hv := withE_Valid (a := a) (b := b) (clean_Valid g) r hr
  have := few_nodes (n := (withE (clean g) a b).length) ((withE_rises (a := a) (b := b) (clean_rises g) r hr).imp (fun h => by omega)) hv
  omega
theorem RankEdge_pure (l0 : List (List Int)) (a1 a2 : Int) (hb : l0.length ≤ 9223372036854775807) (_hw : ∀ r ∈ l0, r.length ≤ 9223372036854775807 ∧ ∀ y ∈ r, (Lit.int .i64 y).wf = true) (_h1 : (Lit.int .i64 a1).wf = true) (_h2 : (Lit.int .i64 a2).wf = true) :
    ∃ k, bywashlaw12_RankEdge.f k l0 a1 a2 = some true := by
  refine Ev.rounds (g := fun k => bywashlaw12_RankEdge.f k l0 a1 a2) ?_
  unfold bywashlaw12_RankEdge.f
  refine Ev.bind awake12_ev ?_
  refine Ev.bind (few_ev l0 hb) ?_
  have stop : Ev (fun k => bywashlaw12_RankEdge.j0 k l0 a1 a2 true true) true := Ev.step (f := fun _ => some true) (fun k => by rw [bywashlaw12_RankEdge.j0, if_pos rfl]) (Ev.now _)
  by_cases hf : few l0 = true
  · simp only [hf, if_true]
    by_cases p1 : a1 < 0
    · simp only [p1, if_true]
      exact stop
    by_cases p2 : a1 ≥ (l0.length : Int)
    · simp only [p1, p2, if_true, if_false]
      exact stop
    by_cases p3 : a2 < 0
    · simp only [p1, p2, p3, if_true, if_false]
      exact stop
    simp only [p1, p2, p3, if_false]
    by_cases p4 : a2 ≥ (l0.length : Int)
    · rw [decide_eq_true p4]
      exact stop
    rw [decide_eq_false p4]
    have hn := (few_iff.1 hf).2
    have hfit := few_fits hf
    have hv := clean_Valid l0
    have ha : Node (clean l0) a1 := ⟨by omega, by rw [clean_len]; omega⟩
    have hbN : Node (clean l0) a2 := ⟨by omega, by rw [clean_len]; omega⟩
    obtain ⟨w, ew⟩ : ∃ w, w = withE (clean l0) a1 a2 := ⟨_, rfl⟩
    have hwv : Valid (withE (clean l0) a1 a2) := withE_Valid hv
    have hwr := withE_rises (a := a1) (b := a2) (clean_rises l0)
    have hwl : w.length = l0.length := by rw [ew, withE_len, clean_len]
    have hwc : clean w = withE (clean l0) a1 a2 := by rw [ew]; exact clean_self hwv hwr
    have hwf : few w = true := by rw [ew]; exact few_withE hf a1 a2
    obtain ⟨x, x1, x2, x3⟩ := ranks_ev hf
    obtain ⟨y, y1, y2, y3⟩ := ranks_ev hwf
    rw [hwc] at y2
    rw [hwl] at y3
    obtain ⟨f, f1, f2, f3⟩ := reach_now (few_small hf) a2
    have hW : graph_With.f l0 a1 a2 = some w := by
      unfold graph_With.f
      rw [if_pos hfit, ew]
    have hna : rdOf false f a1 = false → ¬ Way (clean l0) a2 a1 := fun h hw => by
      have := (f3 a1 (by omega) (by omega)).2 ⟨⟨by omega, by omega⟩, hw⟩
      rw [h] at this
      cases this
    refine Ev.step (f := fun k => (rank_Ranks.f k l0).bind fun t564 => (rank_Ranks.f k w).bind fun t567 => if (f.length : Int) = (l0.length : Int) then (if (t564.length : Int) = (l0.length : Int) then bywashlaw12_RankEdge.j1 k l0 a1 a2 true w f t564 t567 ((t567.length : Int) != (l0.length : Int)) else bywashlaw12_RankEdge.j1 k l0 a1 a2 true w f t564 t567 true) else bywashlaw12_RankEdge.j1 k l0 a1 a2 true w f t564 t567 true) (fun k => ?_) ?_
    · rw [bywashlaw12_RankEdge.j0, if_neg (by simp), hW, Option.bind_some, f1, Option.bind_some]
    refine Ev.bind x1 ?_
    refine Ev.bind y1 ?_
    have c1 : (f.length : Int) = (l0.length : Int) := by omega
    have c2 : (x.length : Int) = (l0.length : Int) := by omega
    have c3 : (y.length : Int) = (l0.length : Int) := by omega
    simp only [c1, c2, c3, if_true, bne_self_eq_false]
    have hyb : ∀ u, 0 ≤ u → u < (l0.length : Int) → 0 ≤ rd y u ∧ rd y u ≤ 900 := fun u h0 h1 => by
      have h2 := y2.bound hwv (a := u) ⟨h0, by rw [withE_len, clean_len]; exact h1⟩
      rw [withE_len, clean_len] at h2
      omega
    have hend : ∀ i, Ev (fun k => bywashlaw12_RankEdge.j3 k l0 a1 a2 true w f x y i false) true := fun i =>
      rankedge_end (by omega) i ⟨by omega, by omega⟩ ⟨by omega, by omega⟩ f2 y3 hyb (by rw [sound_now hfit x3, sound_ranks hv x2]) (soundB (clean w) x) (sound_now (few_fits hwf) (by omega)) (fun h => edge_up hv ha hbN (hna h) hwv y2)
    refine Ev.step (f := fun k => bywashlaw12_RankEdge.l0 k l0 a1 a2 true w f x y ((0 : Nat) : Int)) (fun k => by rw [bywashlaw12_RankEdge.j1, if_neg (by simp)]; rfl) ?_
    refine rankedge_l0 (by omega) ⟨by omega, by omega⟩ f2 x3 y3 hend (fun h u h0 h1 => ?_) l0.length 0 (by omega)
    have huN : Node (clean l0) u := ⟨h0, by rw [clean_len]; exact h1⟩
    have hu0 := (x2.bound hv huN).1
    exact edge_never hv ha hbN (hna h) hwv x2 y2 (rd x u).toNat u huN (by omega)
  · simp only [hf]
    exact stop
theorem RankEdge_c (A0 : Option Addr) (c0 : Nat) (l0 : List (List Int)) (a1 a2 : Int) (w : World) (hr0 : (Kd.slice 3 (Kd.int .i64)).C w A0 l0.length l0) (hc0 : l0.length ≤ c0)
    (hm0 : l0.length ≤ 9223372036854775807) (hw : ∀ r ∈ l0, r.length ≤ 9223372036854775807 ∧ ∀ y ∈ r, (Lit.int .i64 y).wf = true) (h1 : (Lit.int .i64 a1).wf = true) (h2 : (Lit.int .i64 a2).wf = true) :
    Calls Try.prog 12 #[.slice A0 l0.length c0, .int .i64 a1, .int .i64 a2] w fun e w' => e = .returned (.bool true) ∧ Below w.heap.size w w' := by
  obtain ⟨k, h⟩ := RankEdge_pure l0 a1 a2 hm0 hw h1 h2
  exact RankEdge_t k A0 c0 l0 a1 a2 true w hr0 hc0 rfl h
end Go.Proofs.Ytdknhgbjgdmfkaa.P

/- slices.Insert of one number into an own row of numbers: the library's four roads in one contract. -/
import Derived.Test.YtnhcimhdkdgccaaHreach
namespace Go.Proofs.Ytnhcimhdkdgccaa.P
open Go.RowKit Go.Lib Go.Sort Go.Shelf Go.Proofs.YtnhcimhdkdgccaaW.PrintWords Go.Proofs.YtnhcimhdkdgccaaW.PrintLast Go.Proofs.YtnhcimhdkdgccaaW.PrintMore

theorem setCell_block {w : World} {g t : Nat} {cur : Array Value} (h : w.heap[g]? = some (.cells cur t (0, 0))) (b o : Nat) (u : Value) :
    ∃ cur', (w.setCell ⟨b, o, none⟩ u).heap[g]? = some (.cells cur' t (0, 0)) ∧ cur'.size = cur.size := by
  simp only [World.setCell, Array.getElem?_modify]
  by_cases e : b = g
  · subst e
    rw [if_pos rfl, h]
    exact ⟨_, rfl, by simp⟩
  · rw [if_neg e]
    exact ⟨cur, h, rfl⟩
theorem setCells_block {g t : Nat} (b : Nat) : ∀ (vs : List Value) (o : Nat) (w : World) (cur : Array Value), w.heap[g]? = some (.cells cur t (0, 0)) → ∃ cur', (w.setCells b o vs).heap[g]? = some (.cells cur' t (0, 0)) ∧ cur'.size = cur.size
  | [], _, _, cur, h => ⟨cur, h, rfl⟩
  | v :: vs, o, w, cur, h => by
    obtain ⟨c1, h1, e1⟩ := setCell_block h b o v
    obtain ⟨c2, h2, e2⟩ := setCells_block b vs (o + 1) _ c1 h1
    exact ⟨c2, h2, e2.trans e1⟩
theorem fr_setCells (g : Nat) : ∀ (vs : List Value) (o : Nat) (w : World), Fr (fun k => k = g) w (w.setCells g o vs)
  | [], _, w => Fr.refl _ w
  | v :: vs, o, w => ((Fr.refl (fun k => k = g) w).setCell (p := ⟨g, o, none⟩) (.inl rfl) v).trans (fr_setCells g vs (o + 1) _) (fun _ h => .inl h)

theorem own_of_cells {w : World} {base g t cap : Nat} {cur : Array Value} {ys : List Value} (hh : w.heap[g]? = some (.cells cur t (0, 0))) (hs : cur.size = cap) (hc : cap ≤ maxLen) (hb : base ≤ g) (hl : ys.length ≤ cap) (h : ∀ j (hj : j < ys.length), w.cell? ⟨g, j, none⟩ = some ys[j]) :
    w.ownsRow base t 1 (.slice (some ⟨g, 0, none⟩) ys.length cap) ys.length ys := by
  refine ⟨by omega, .inr ⟨g, cap, cur, rfl, hb, hh, hl, hc, by omega, ?_⟩⟩
  apply List.ext_getElem?
  intro j
  rw [Nat.mul_one, List.getElem?_take]
  by_cases hj : j < ys.length
  · rw [if_pos hj, List.getElem?_eq_getElem hj, Array.getElem?_toList]
    have := h j hj
    simp only [World.cell?, hh] at this
    simpa using this
  · rw [if_neg hj, List.getElem?_eq_none (by omega)]

section
variable {xs : List Int} {x : Int} {i : Nat}
theorem ins_len (hi : i ≤ xs.length) : ((xs.take i ++ x :: xs.drop i).map (Value.int .i64)).length = xs.length + 1 := by simp; omega
theorem ins_get (hi : i ≤ xs.length) (j : Nat) (hj : j < ((xs.take i ++ x :: xs.drop i).map (Value.int .i64)).length) :
    ((xs.take i ++ x :: xs.drop i).map (Value.int .i64))[j] = .int .i64 (if j < i then xs.getD j 0 else if j = i then x else xs.getD (j - 1) 0) := by
  rw [ins_len hi] at hj
  rw [List.getElem_map]
  congr 1
  have hl : (xs.take i).length = i := by rw [List.length_take]; omega
  by_cases h1 : j < i
  · rw [if_pos h1, List.getElem_append_left (by omega), List.getElem_take, List.getD_eq_getElem?_getD, List.getElem?_eq_getElem (by omega)]
    rfl
  · rw [if_neg h1, List.getElem_append_right (by omega)]
    by_cases h2 : j = i
    · subst h2
      rw [if_pos rfl]
      simp only [hl, Nat.sub_self, List.getElem_cons_zero]
    · rw [if_neg h2]
      obtain ⟨m, hm⟩ : ∃ m, j - i = m + 1 := ⟨j - i - 1, by omega⟩
      simp only [hl, hm, List.getElem_cons_succ, List.getElem_drop]
      rw [List.getD_eq_getElem?_getD, List.getElem?_eq_getElem (by omega), Option.getD_some]
      congr 1
      omega
end

theorem zero_cells (n : Nat) : (Builtin.zeroCells (Value.int .i64 0).cells n).size = n := by
  unfold Builtin.zeroCells
  simp [Value.cells]

theorem own_alloc_lit (W : World) (base t cap : Nat) (ys : List Value) (Z : Array Value) (hs : ys.length + Z.size = cap) (hc : cap ≤ maxLen) (hb : base ≤ W.heap.size) :
    (W.alloc (.cells (ys.toArray ++ Z) t)).ownsRow base t 1 (.slice (some ⟨W.heap.size, 0, none⟩) ys.length cap) ys.length ys :=
  ⟨by omega, .inr ⟨W.heap.size, cap, _, rfl, hb, heap_alloc_new W _, by omega, hc, by simp; omega, by simp⟩⟩

/-- The library's four roads, in this program's numbers. -/
theorem ins_end_grow (a : Option Addr) (n c vb : Nat) (cs vs : List Value) (w : World) (hnc : n ≤ c) (hroom : c < n + 1) (hbig : (n + 1) * 8 ≤ 140737488355328) (hcl : cs.length = n) (hvl : vs.length = 1) (hnil : a = none → n = 0)
    (hcs : ∀ b, a = some b → ∀ j v, cs[j]? = some v → w.cell? (b.add j) = some v) (hvs : ∀ j v, vs[j]? = some v → w.cell? ⟨vb, 0 + j, none⟩ = some v) (h1v : ∀ v ∈ vs, v.oneCell' = true) :
    Calls Try.prog 65 #[.slice a n c, .int .i64 n, .slice (some ⟨vb, 0, none⟩) 1 1] w fun e w' => e = .returned (.slice (some ⟨w.heap.size, 0, none⟩) (n + 1) (grownCap w (n + 1) c 3)) ∧
      w' = w.drew.alloc (.cells ((cs ++ vs).toArray ++ Builtin.zeroCells (Value.int .i64 0).cells (grownCap w (n + 1) c 3 - (n + 1))) 3) :=
  Any2.slices_Insert_int_end_grow Try.laysIns a n c vb 0 1 1 cs vs w Nat.one_pos hnc hroom hbig hcl hvl hnil hcs hvs h1v
theorem ins_grow (g n c i vb : Nat) (cs vs : List Value) (w : World) (hi : i < n) (hnc : n ≤ c) (hroom : c < n + 1) (hbig : (n + 1) * 8 ≤ 140737488355328) (hcl : cs.length = n) (hvl : vs.length = 1)
    (hcs : ∀ j v, cs[j]? = some v → w.cell? ⟨g, 0 + j, none⟩ = some v) (hvs : ∀ j v, vs[j]? = some v → w.cell? ⟨vb, 0 + j, none⟩ = some v) (h1c : ∀ v ∈ cs, v.oneCell' = true) (h1v : ∀ v ∈ vs, v.oneCell' = true) :
    Calls Try.prog 65 #[.slice (some ⟨g, 0, none⟩) n c, .int .i64 i, .slice (some ⟨vb, 0, none⟩) 1 1] w fun e w' => e = .returned (.slice (some ⟨w.heap.size, 0, none⟩) (n + 1) (grownCap w (n + 1) c 3)) ∧
      w' = (((w.alloc (.cells ((cs.take i).toArray ++ Builtin.zeroCells (Value.int .i64 0).cells (n + 1 - i) ++ Builtin.zeroCells (Value.int .i64 0).cells (grownCap w (n + 1) c 3 - (n + 1))) 3)).drew.setCells w.heap.size i vs).drew).setCells w.heap.size (i + 1) (cs.drop i) :=
  Any2.slices_Insert_int_grow Try.laysIns g 0 n c i vb 0 1 1 cs vs w hi Nat.one_pos hnc hroom hbig hcl hvl hcs hvs h1c h1v
theorem ins_shift (g n c i vb : Nat) (cs vs : List Value) (w : World) (hi : i < n) (hroom : n + 1 ≤ c) (hc63 : c ≤ 9223372036854775807) (hvb : vb ≠ g) (hcl : cs.length = n) (hvl : vs.length = 1)
    (hcs : ∀ j v, cs[j]? = some v → w.cell? ⟨g, 0 + j, none⟩ = some v) (hsp : ∀ j, j < n + 1 → (w.cell? ⟨g, 0 + j, none⟩).isSome = true) (hfz : ∀ j, j < n + 1 → w.frozen? ⟨g, 0 + j, none⟩ = false)
    (hvs : ∀ j v, vs[j]? = some v → w.cell? ⟨vb, 0 + j, none⟩ = some v) (h1c : ∀ v ∈ cs, v.oneCell' = true) (h1v : ∀ v ∈ vs, v.oneCell' = true)
    (tA tB : TypeId) (kA kB : Nat) (hsa : w.shape? vb = some (tA, kA)) (hsb : w.shape? g = some (tB, kB)) (hkB : kB ≠ 0) (hfa : w.frozen? ⟨vb, 0, none⟩ = false) (hfe : w.frozen? ⟨vb, kA, none⟩ = false) :
    Calls Try.prog 65 #[.slice (some ⟨g, 0, none⟩) n c, .int .i64 i, .slice (some ⟨vb, 0, none⟩) 1 1] w fun e w' => e = .returned (.slice (some ⟨g, 0, none⟩) (n + 1) c) ∧ w' = (w.drew.setCells g (0 + (i + 1)) (cs.drop i)).setCells g (0 + i) vs :=
  Any2.slices_Insert_int_shift Try.laysIns g 0 n c i vb 0 1 1 cs vs w hi Nat.one_pos hroom hc63 hvb hcl hvl hcs hsp hfz hvs h1c h1v tA tB kA kB hsa hsb hkB hfa hfe
theorem ins_end_room (g n c vb : Nat) (vs : List Value) (w : World) (hroom : n + 1 ≤ c) (hc63 : c ≤ 9223372036854775807) (hvl : vs.length = 1) (hsp : ∀ j, j < 1 → (w.cell? ⟨g, 0 + n + j, none⟩).isSome = true) (hfz : ∀ j, j < 1 → w.frozen? ⟨g, 0 + n + j, none⟩ = false)
    (hvs : ∀ j v, vs[j]? = some v → w.cell? ⟨vb, 0 + j, none⟩ = some v) (h1v : ∀ v ∈ vs, v.oneCell' = true) :
    Calls Try.prog 65 #[.slice (some ⟨g, 0, none⟩) n c, .int .i64 n, .slice (some ⟨vb, 0, none⟩) 1 1] w fun e w' => e = .returned (.slice (some ⟨g, 0, none⟩) (n + 1) c) ∧ w' = w.setCells g (0 + n) vs :=
  Any2.slices_Insert_int_end_room Try.laysIns g 0 n c vb 0 1 1 vs w Nat.one_pos hroom hc63 hvl hsp hfz hvs h1v

theorem insert_c (v : Value) (xs : List Int) (x : Int) (i base : Nat) (ok : Nat → Prop) (w : World) (vb : Nat) (h : dI.R 3 w base ok v xs) (hi : i ≤ xs.length) (hsm : xs.length ≤ 1000000) (hvb : w.heap[vb]? = some (.cells #[.int .i64 x] 3 (0, 0))) (hne : v.ownBlock ≠ some vb) (hbase : base ≤ w.heap.size) :
    Calls Try.prog 65 #[v, .int .i64 i, .slice (some ⟨vb, 0, none⟩) 1 1] w fun e w' => ∃ v', e = .returned v' ∧ w'.ownsRow base 3 1 v' (xs.length + 1) ((xs.take i ++ x :: xs.drop i).map (Value.int .i64)) ∧ Fr (fun k => v.ownBlock = some k) w w' ∧ (v'.ownBlock = v.ownBlock ∨ ∃ b, v'.ownBlock = some b ∧ w.heap.size ≤ b) := by
  have hvs : ∀ (j : Nat) (u : Value), [Value.int .i64 x][j]? = some u → w.cell? ⟨vb, 0 + j, none⟩ = some u := by
    intro j u hu
    match j, hu with
    | 0, hu => injection hu with hu; subst hu; simp [World.cell?, hvb]
    | j + 1, hu => simp at hu
  have h1v : ∀ u ∈ [Value.int .i64 x], u.oneCell' = true := by intro u hu; simp at hu; subst hu; rfl
  have hc1 : ∀ u ∈ xs.map (Value.int .i64), u.oneCell' = true := by
    intro u hu
    obtain ⟨y, _, rfl⟩ := List.mem_map.1 hu
    rfl
  rcases R_ints_form h with ⟨rfl, rfl⟩ | ⟨g, cap, rfl, hbg, hlt, hn, hH⟩
  · -- the nil slice
    obtain rfl : i = 0 := by simpa using hi
    refine (ins_end_grow none 0 0 vb [] [.int .i64 x] w (by omega) (by omega) (by omega) rfl rfl (fun _ => rfl) (fun a ha => by cases ha) hvs h1v).mono ?_
    rintro e w' ⟨rfl, rfl⟩
    have hg1 := grownCap_ge w 1 0 3
    refine ⟨_, rfl, ?_, (Fr.drewN _ w 1).alloc _, .inr ⟨w.heap.size, rfl, Nat.le_refl _⟩⟩
    exact own_alloc_lit w.drew base 3 (grownCap w 1 0 3) [Value.int .i64 x] _ (by rw [zero_cells]; simp; omega) (grownCap_le_maxLen _ _ _ _ (by decide)) hbase
  · have hown := R_ints h
    obtain ⟨cur, hcur, hcs, hcm⟩ : ∃ cur, w.heap[g]? = some (.cells cur 3 (0, 0)) ∧ cur.size = cap ∧ cap ≤ maxLen := by
      rcases hown.2 with ⟨e0, _⟩ | ⟨g', cap', cur, e0, _, hh, _, hm, hs, _⟩
      · cases e0
      · injection e0 with e1 _ e3
        injection e1 with e1
        injection e1 with e1
        subst e1; subst e3
        exact ⟨cur, hh, by omega, hm⟩
    have hcap63 : cap ≤ 9223372036854775807 := hcm
    have hgv : vb ≠ g := fun e => hne (by simp [Value.ownBlock, e])
    have hcell : ∀ j, j < xs.length → w.cell? ⟨g, j, none⟩ = some (.int .i64 (xs.getD j 0)) := by
      intro j hj
      rw [hown.cellAt j (by omega), List.getElem?_map, List.getElem?_eq_getElem hj, List.getD_eq_getElem?_getD, List.getElem?_eq_getElem hj]
      rfl
    have hcx : ∀ (j : Nat) (u : Value), (xs.map (Value.int .i64))[j]? = some u → w.cell? ⟨g, 0 + j, none⟩ = some u := by
      intro j u hu
      rw [Nat.zero_add]
      have hj : j < xs.length := by simpa using (List.getElem?_eq_some_iff.1 hu).1
      rw [hown.cellAt j (by omega)]
      exact hu
    have hsome : ∀ j, j < cap → (w.cell? ⟨g, j, none⟩).isSome = true := by
      intro j hj
      simp only [World.cell?, hcur]
      simp [Array.getElem?_eq_getElem (show j < cur.size by omega)]
    have hfz : ∀ j, w.frozen? ⟨g, j, none⟩ = false := fun j => hown.frozenAt j
    by_cases hroom : xs.length + 1 ≤ cap
    · by_cases hil : i < xs.length
      · -- in place
        refine (ins_shift g xs.length cap i vb (xs.map (Value.int .i64)) [.int .i64 x] w hil hroom hcap63 hgv (by simp) rfl hcx (fun j hj => by rw [Nat.zero_add]; exact hsome j (by omega)) (fun j hj => hfz _) hvs hc1 h1v
          3 3 1 cap (by simp [World.shape?, hvb]) (by simp [World.shape?, hcur, hcs]) (by omega) (by simp [World.frozen?, hvb]) (by simp [World.frozen?, hvb])).mono ?_
        rintro e w' ⟨rfl, rfl⟩
        have hcur' : (w.drew).heap[g]? = some (.cells cur 3 (0, 0)) := hcur
        obtain ⟨c1, hc1', e1⟩ := setCells_block (t := 3) g ((xs.map (Value.int .i64)).drop i) (0 + (i + 1)) w.drew cur hcur'
        obtain ⟨c2, hc2', e2⟩ := setCells_block (t := 3) g [Value.int .i64 x] (0 + i) _ c1 hc1'
        refine ⟨_, rfl, ?_, ?_, .inl rfl⟩
        · have hl := ins_len (x := x) hi
          have := own_of_cells (base := base) (ys := (xs.take i ++ x :: xs.drop i).map (Value.int .i64)) hc2' (by omega) hcm hbg (by rw [hl]; omega) (fun j hj => by
            rw [ins_get hi j hj]
            rw [hl] at hj
            have hs1 : ∀ k, k < ((xs.map (Value.int .i64)).drop i).length → ((w.drew).cell? ⟨g, 0 + (i + 1) + k, none⟩).isSome = true := fun k hk => by
              rw [List.length_drop, List.length_map] at hk
              exact hsome _ (by omega)
            have hin : ∀ k (hk : k < ((xs.map (Value.int .i64)).drop i).length), ((w.drew).setCells g (0 + (i + 1)) ((xs.map (Value.int .i64)).drop i)).cell? ⟨g, 0 + (i + 1) + k, none⟩ = some ((xs.map (Value.int .i64)).drop i)[k] := World.cell?_setCells_in g _ _ _ hs1
            by_cases h1 : j < i
            · rw [if_pos h1, World.cell?_setCells_out g _ _ _ _ (fun _ _ => .inl (by show j < 0 + i; omega)), World.cell?_setCells_out g _ _ _ _ (fun _ _ => .inl (by show j < 0 + (i + 1); omega))]
              exact hcell j (by omega)
            · rw [if_neg h1]
              by_cases h2 : j = i
              · subst h2
                rw [if_pos rfl]
                have := World.cell?_setCells_in g [Value.int .i64 x] (0 + j) ((w.drew).setCells g (0 + (j + 1)) ((xs.map (Value.int .i64)).drop j)) (fun k hk => by
                  obtain rfl : k = 0 := by simpa using hk
                  rw [World.cell?_setCells_out g _ _ _ _ (fun _ _ => .inl (by show 0 + j + 0 < 0 + (j + 1); omega))]
                  exact hsome _ (by omega)) 0 (by simp)
                simpa using this
              · rw [if_neg h2, World.cell?_setCells_out g _ _ _ _ (fun _ _ => .inr (by show 0 + i + 1 ≤ j; omega))]
                have := hin (j - i - 1) (by rw [List.length_drop, List.length_map]; omega)
                rw [show 0 + (i + 1) + (j - i - 1) = j by omega] at this
                rw [this, List.getElem_drop, List.getElem_map, List.getD_eq_getElem?_getD, List.getElem?_eq_getElem (by omega), Option.getD_some]
                congr 3
                omega)
          rw [hl] at this
          exact this
        · have := ((Fr.drewN (fun k => k = g) w 1).trans (fr_setCells g ((xs.map (Value.int .i64)).drop i) (0 + (i + 1)) (w.drewN 1)) (fun _ hh => .inl hh)).trans (fr_setCells g [Value.int .i64 x] (0 + i) _) (fun _ hh => .inl hh)
          exact ⟨this.os, this.tape, this.output, this.size, fun k hk hn' => this.block k hk (fun e => hn' (by simp [Value.ownBlock, e]))⟩
      · -- at the end, with room
        obtain rfl : i = xs.length := by omega
        refine (ins_end_room g xs.length cap vb [.int .i64 x] w hroom hcap63 rfl (fun j hj => by rw [Nat.zero_add]; exact hsome _ (by omega)) (fun j hj => hfz _) hvs h1v).mono ?_
        rintro e w' ⟨rfl, rfl⟩
        obtain ⟨c2, hc2', e2⟩ := setCells_block (t := 3) g [Value.int .i64 x] (0 + xs.length) w cur hcur
        refine ⟨_, rfl, ?_, ?_, .inl rfl⟩
        · have hl := ins_len (x := x) (Nat.le_refl xs.length)
          have := own_of_cells (base := base) (ys := (xs.take xs.length ++ x :: xs.drop xs.length).map (Value.int .i64)) hc2' (by omega) hcm hbg (by rw [hl]; omega) (fun j hj => by
            rw [ins_get (Nat.le_refl _) j hj]
            rw [hl] at hj
            by_cases h1 : j < xs.length
            · rw [if_pos h1, World.cell?_setCells_out g _ _ _ _ (fun _ _ => .inl (by show j < 0 + xs.length; omega))]
              exact hcell j h1
            · obtain rfl : j = xs.length := by omega
              rw [if_neg h1, if_pos rfl]
              have := World.cell?_setCells_in g [Value.int .i64 x] (0 + xs.length) w (fun k hk => by
                obtain rfl : k = 0 := by simpa using hk
                exact hsome _ (by omega)) 0 (by simp)
              simpa using this)
          rw [hl] at this
          exact this
        · have := fr_setCells g [Value.int .i64 x] (0 + xs.length) w
          exact ⟨this.os, this.tape, this.output, this.size, fun k hk hn' => this.block k hk (fun e => hn' (by simp [Value.ownBlock, e]))⟩
    · have hg1 := grownCap_ge w (xs.length + 1) cap 3
      have hg2 := grownCap_le_maxLen w (xs.length + 1) cap 3 (by unfold maxLen; omega)
      by_cases hil : i < xs.length
      · -- a new row
        refine (ins_grow g xs.length cap i vb (xs.map (Value.int .i64)) [.int .i64 x] w hil hn (by omega) (by omega) (by simp) rfl hcx hvs hc1 h1v).mono ?_
        rintro e w' ⟨rfl, hw'⟩
        obtain ⟨nb, enb⟩ : ∃ nb, nb = w.alloc (.cells (((xs.map (Value.int .i64)).take i).toArray ++ Builtin.zeroCells (Value.int .i64 0).cells (xs.length + 1 - i) ++ Builtin.zeroCells (Value.int .i64 0).cells (grownCap w (xs.length + 1) cap 3 - (xs.length + 1))) 3) := ⟨_, rfl⟩
        have hnb : nb.heap[w.heap.size]? = some (.cells (((xs.map (Value.int .i64)).take i).toArray ++ Builtin.zeroCells (Value.int .i64 0).cells (xs.length + 1 - i) ++ Builtin.zeroCells (Value.int .i64 0).cells (grownCap w (xs.length + 1) cap 3 - (xs.length + 1))) 3 (0, 0)) := by rw [enb]; exact heap_alloc_new w _
        have hnsz : (((xs.map (Value.int .i64)).take i).toArray ++ Builtin.zeroCells (Value.int .i64 0).cells (xs.length + 1 - i) ++ Builtin.zeroCells (Value.int .i64 0).cells (grownCap w (xs.length + 1) cap 3 - (xs.length + 1))).size = grownCap w (xs.length + 1) cap 3 := by
          simp only [Array.size_append, List.size_toArray, List.length_take, List.length_map, zero_cells]
          omega
        have hnsome : ∀ j, j < grownCap w (xs.length + 1) cap 3 → (nb.cell? ⟨w.heap.size, j, none⟩).isSome = true := by
          intro j hj
          simp only [World.cell?, hnb]
          rw [Array.getElem?_eq_getElem (by rw [hnsz]; exact hj)]
          rfl
        have hfn : Fr (fun k => (Value.slice (some ⟨g, 0, none⟩) xs.length cap).ownBlock = some k) w nb := by rw [enb]; exact (Fr.refl _ w).alloc _
        rw [← enb] at hw'
        subst hw'
        obtain ⟨c1, hc1', e1⟩ := setCells_block (t := 3) w.heap.size [Value.int .i64 x] i nb.drew _ hnb
        obtain ⟨c2, hc2', e2⟩ := setCells_block (t := 3) w.heap.size ((xs.map (Value.int .i64)).drop i) (i + 1) ((nb.drew.setCells w.heap.size i [Value.int .i64 x]).drew) c1 hc1'
        refine ⟨_, rfl, ?_, ?_, .inr ⟨w.heap.size, rfl, Nat.le_refl _⟩⟩
        · have hl := ins_len (x := x) hi
          have := own_of_cells (base := base) (ys := (xs.take i ++ x :: xs.drop i).map (Value.int .i64)) hc2' (by omega) hg2 hbase (by rw [hl]; exact hg1) (fun j hj => by
            rw [ins_get hi j hj]
            rw [hl] at hj
            by_cases h1 : j < i
            · rw [if_pos h1, World.cell?_setCells_out _ _ _ _ _ (fun _ _ => .inl (by show j < i + 1; omega))]
              show (nb.drew.setCells w.heap.size i [Value.int .i64 x]).cell? _ = _
              rw [World.cell?_setCells_out _ _ _ _ _ (fun _ _ => .inl (by show j < i; omega))]
              show nb.cell? _ = _
              simp only [World.cell?, hnb]
              rw [Array.append_assoc, Array.getElem?_append_left (by simp; omega)]
              simp [h1, List.getElem?_eq_getElem (show j < xs.length by omega)]
            · rw [if_neg h1]
              by_cases h2 : j = i
              · subst h2
                rw [if_pos rfl, World.cell?_setCells_out _ _ _ _ _ (fun _ _ => .inl (by show j < j + 1; omega))]
                have := World.cell?_setCells_in w.heap.size [Value.int .i64 x] j nb.drew (fun k hk => by
                  obtain rfl : k = 0 := by simpa using hk
                  exact hnsome _ (by omega)) 0 (by simp)
                simpa using this
              · rw [if_neg h2]
                have := World.cell?_setCells_in w.heap.size ((xs.map (Value.int .i64)).drop i) (i + 1) ((nb.drew.setCells w.heap.size i [Value.int .i64 x]).drew) (fun k hk => by
                  rw [List.length_drop, List.length_map] at hk
                  show ((nb.drew.setCells w.heap.size i [Value.int .i64 x]).cell? _).isSome = true
                  rw [World.cell?_setCells_out _ _ _ _ _ (fun _ _ => .inr (by show i + 1 ≤ i + 1 + k; omega))]
                  exact hnsome _ (by omega)) (j - i - 1) (by rw [List.length_drop, List.length_map]; omega)
                rw [show i + 1 + (j - i - 1) = j by omega] at this
                rw [this, List.getElem_drop, List.getElem_map, List.getD_eq_getElem?_getD, List.getElem?_eq_getElem (by omega), Option.getD_some]
                congr 3
                omega)
          rw [hl] at this
          exact this
        · have f1 := hfn.trans (Fr.drewN (fun k => k = w.heap.size) nb 1) (fun k e => .inr (by omega))
          have f2 := f1.trans (fr_setCells w.heap.size [Value.int .i64 x] i (nb.drewN 1)) (fun k e => .inr (by omega))
          have f3 := f2.trans (Fr.drewN (fun k => k = w.heap.size) _ 1) (fun k e => .inr (by omega))
          exact f3.trans (fr_setCells w.heap.size ((xs.map (Value.int .i64)).drop i) (i + 1) _) (fun k e => .inr (by omega))
      · -- at the end, a new row
        obtain rfl : i = xs.length := by omega
        refine (ins_end_grow (some ⟨g, 0, none⟩) xs.length cap vb (xs.map (Value.int .i64)) [.int .i64 x] w hn (by omega) (by omega) (by simp) rfl (fun e => by cases e) (fun a ha j u hu => by
          injection ha with ha
          subst ha
          rw [Go.WideShapes.add_plain]
          exact hcx j u hu) hvs h1v).mono ?_
        rintro e w' ⟨rfl, rfl⟩
        refine ⟨_, rfl, ?_, (Fr.drewN _ w 1).alloc _, .inr ⟨w.heap.size, rfl, Nat.le_refl _⟩⟩
        have hl : (xs.map (Value.int .i64) ++ [Value.int .i64 x]).length = xs.length + 1 := by simp
        have e1 : (xs.take xs.length ++ x :: xs.drop xs.length).map (Value.int .i64) = xs.map (Value.int .i64) ++ [Value.int .i64 x] := by simp
        rw [e1]
        have := own_alloc_lit w.drew base 3 (grownCap w (xs.length + 1) cap 3) (xs.map (Value.int .i64) ++ [Value.int .i64 x]) (Builtin.zeroCells (Value.int .i64 0).cells (grownCap w (xs.length + 1) cap 3 - (xs.length + 1))) (by rw [zero_cells, hl]; omega) hg2 hbase
        rw [hl] at this
        exact this

end Go.Proofs.Ytnhcimhdkdgccaa.P

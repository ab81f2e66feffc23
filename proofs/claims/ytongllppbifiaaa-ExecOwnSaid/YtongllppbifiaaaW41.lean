import Derived.Test.YtongllppbifiaaaW40
namespace Go.Proofs.Ytongllppbifiaaa
open Go Abs Ex
set_option linter.unusedVariables false
set_option linter.unusedSimpArgs false
abbrev instSh : Sh := .pair (.int .i64) (.pair (.int .i64) (.pair (.int .i64) (.pair (.int .i64) (.pair (.int .i64) (.pair (.int .i64) (.pair (.int .u32) (.pair (.int .i64) .unit)))))))
abbrev codeSh : Sh := .pair (.row instSh) (.pair (.int .i64) (.pair (.int .i64) .unit))
abbrev specSh : Sh := .pair codeSh (.pair (.row (.int .i64)) (.pair (.row (.int .u32)) (.pair (.int .i64) (.pair (.row (.int .u32)) .unit))))
abbrev lopSh : Sh := .pair (.int .i64) (.pair (.int .i64) (.pair .bool .unit))
def inOf (x : instSh.Val) : In := ⟨x.1,x.2.1,x.2.2.1,x.2.2.2.1,x.2.2.2.2.1,x.2.2.2.2.2.1,(x.2.2.2.2.2.2.1 : Int).toNat,x.2.2.2.2.2.2.2.1⟩
def lopOf (x : lopSh.Val) : LOp := ⟨x.1,x.2.1,x.2.2.1⟩
def spOf (x : specSh.Val) : Sp := ⟨List.map inOf x.1.1,x.1.2.1,x.1.2.2.1,x.2.1,List.map Int.toNat x.2.2.1,x.2.2.2.1,List.map Int.toNat x.2.2.2.2.1⟩
theorem row_inst {w : World} {l : List instSh.Val} (h : ∀ x ∈ l,∃ r,Sh.Reads w instSh x r) : flRow instSh l = rowI (l.map inOf) ∧ ∀ i ∈ l.map inOf,i.k < 4294967296 := by
 induction l with
 | nil => exact ⟨rfl,by simp⟩
 | cons a l ih =>
  obtain ⟨h1,h2⟩ := ih fun x hx => h x (List.mem_cons_of_mem _ hx)
  obtain ⟨r,hr⟩ := h a List.mem_cons_self
  obtain ⟨_,_,_,_,_,_,_,_,_,_,_,_,_,_,_,_,_,_,_,_,_,_,_,_,_,_,_,⟨_,hw⟩,_⟩ := hr
  have hw := wf_u32 hw
  have e : (((inOf a).k : Nat) : Int) = a.2.2.2.2.2.2.1 := Int.toNat_of_nonneg hw.1
  refine ⟨?_, ?_⟩
  ·show fl instSh a ++ flRow instSh l = _
   rw [h1]
   show _ = (inOf a).vs ++ rowI (l.map inOf)
   congr 1
   unfold In.vs
   rw [e]
   rfl
  ·intro i hi
   simp only [List.map_cons,List.mem_cons] at hi
   rcases hi with rfl | hi
   ·show Int.toNat _ < _
    exact (Int.toNat_lt hw.1).2 hw.2
   ·exact h2 i hi
theorem row_lop (l : List lopSh.Val) : flRow lopSh l = rowO (l.map lopOf) := by
 induction l with
 | nil => rfl
 | cons a l ih =>
  show fl lopSh a ++ flRow lopSh l = _
  rw [ih]
  rfl
theorem spec_in {w : World} {v0 v1 : Value} {x0 : specSh.Val} {x1 : List lopSh.Val} (h0 : Sh.Arg w specSh x0 v0) (h1 : Sh.Arg w (.row lopSh) x1 v1) : ∃ (ρ : Ren) (a0 a1 : Value) (H : AH),v0 = conc ρ a0 ∧ v1 = conc ρ a1 ∧ scp (live H) a0 = true ∧ scp (live H) a1 = true ∧ Rel ρ H w ∧ (∀ k ∈ H,∃ vs,k = ABlk.row vs) ∧ SpR H a0 (spOf x0) ∧ ArgRow H a1 (rowO (x1.map lopOf)) (x1.map lopOf).length := by
 obtain ⟨⟨L,lk,uk,_⟩,zs,ini,each,r7,_⟩ := x0
 obtain ⟨cs,rfl,c1,c2,hcs,hc1,hc2⟩ := h0
 obtain ⟨cL,cLk,rfl,hL,hLk⟩ := hc1
 obtain ⟨ck,cu,rfl,⟨rfl,_⟩,hu⟩ := hLk
 obtain ⟨cu1,cu2,rfl,⟨rfl,_⟩,rfl⟩ := hu
 obtain ⟨cz,cz2,rfl,hz,hz2⟩ := hc2
 obtain ⟨ci,ci2,rfl,hi,hi2⟩ := hz2
 obtain ⟨ce,ce2,rfl,⟨rfl,_⟩,he2⟩ := hi2
 obtain ⟨c7,c72,rfl,h7,rfl⟩ := he2
 have one : ∀ {e : Sh} {l : List e.Val} {c : List Value},Sh.Reads w (.row e) l c → ∃ v,c = [v] := fun h => by
  obtain ⟨a,cap,rfl,_⟩ := h
  exact ⟨_,rfl⟩
 obtain ⟨vL,rfl⟩ := one hL
 obtain ⟨vz,rfl⟩ := one hz
 obtain ⟨vi,rfl⟩ := one hi
 obtain ⟨v7,rfl⟩ := one h7
 obtain ⟨⟨bL,FL,iL⟩,mL⟩ := row_in rfl hL
 obtain ⟨⟨bz,Fz,iz⟩,mz⟩ := row_in rfl hz
 obtain ⟨⟨bi,Fi,ii⟩,mi⟩ := row_in rfl hi
 obtain ⟨⟨b7,F7,i7⟩,m7⟩ := row_in rfl h7
 obtain ⟨⟨bo,Fo,io⟩,_⟩ := row_in (e := lopSh) rfl h1
 obtain ⟨eL,kL⟩ := row_inst mL
 obtain ⟨ei,ki⟩ := row_u32 mi
 obtain ⟨e7,k7⟩ := row_u32 m7
 have iL := Eq.subst (motive := fun R => RowIn w R (List.length (α := instSh.Val) L) vL bL FL) eL iL
 have iz := Eq.subst (motive := fun R => RowIn w R (List.length (α := Int) zs) vz bz Fz) (row_int zs) iz
 have ii := Eq.subst (motive := fun R => RowIn w R (List.length (α := Int) ini) vi bi Fi) ei ii
 have i7 := Eq.subst (motive := fun R => RowIn w R (List.length (α := Int) r7) v7 b7 F7) e7 i7
 have io := Eq.subst (motive := fun R => RowIn w R (List.length (α := lopSh.Val) x1) v1 bo Fo) (row_lop x1) io
 let ρ : Ren := fun b => match b with
  | 0 => bL
  | 1 => bz
  | 2 => bi
  | 3 => b7
  | _ => bo
 let Rs : List (List Value) := [rowI (List.map inOf L),intV zs,w32 (List.map Int.toNat ini),w32 (List.map Int.toNat r7),rowO (x1.map lopOf)]
 have hplI : ∀ v ∈ rowI (List.map inOf L),plain v = true := fun v hv => flRow_plain instSh L v (eL.symm ▸ hv)
 have hplz : ∀ v ∈ intV zs,plain v = true := fun v hv => flRow_plain (.int .i64) zs v ((row_int zs).symm ▸ hv)
 have hpli : ∀ v ∈ w32 (List.map Int.toNat ini),plain v = true := fun v hv => flRow_plain (.int .u32) ini v (ei.symm ▸ hv)
 have hpl7 : ∀ v ∈ w32 (List.map Int.toNat r7),plain v = true := fun v hv => flRow_plain (.int .u32) r7 v (e7.symm ▸ hv)
 have hplo : ∀ v ∈ rowO (x1.map lopOf),plain v = true := fun v hv => flRow_plain lopSh x1 v ((row_lop x1).symm ▸ hv)
 have rel : Rel ρ (Rs.map ABlk.row) w := rows_rel fun j R hR => by
  match j with
  | 0 => injection hR with hR; subst hR; exact ⟨hplI,iL.cell⟩
  | 1 => injection hR with hR; subst hR; exact ⟨hplz,iz.cell⟩
  | 2 => injection hR with hR; subst hR; exact ⟨hpli,ii.cell⟩
  | 3 => injection hR with hR; subst hR; exact ⟨hpl7,i7.cell⟩
  | 4 => injection hR with hR; subst hR; exact ⟨hplo,io.cell⟩
  | n + 5 => simp [Rs] at hR
 have hcs2 : cs = #[vL,.int .i64 lk,.int .i64 uk,vz,vi,.int .i64 each,v7] := by
  apply Array.ext'
  rw [hcs]
  rfl
 refine ⟨ρ,.agg #[FL 0,.int .i64 lk,.int .i64 uk,Fz 1,Fi 2,.int .i64 each,F7 3],Fo 4,Rs.map ABlk.row, ?_,io.val ρ 4 rfl, ?_,io.scp _ 4 rfl,rel, ?_,⟨⟨FL 0,Fz 1,Fi 2,F7 3,rfl, ?_, ?_, ?_, ?_⟩,kL,ki,k7⟩, ?_⟩
 ·rw [hcs2,iL.val ρ 0 rfl,iz.val ρ 1 rfl,ii.val ρ 2 rfl,i7.val ρ 3 rfl]
  rfl
 ·have q1 := iL.scp (live (Rs.map ABlk.row)) 0 rfl
  have q2 := iz.scp (live (Rs.map ABlk.row)) 1 rfl
  have q3 := ii.scp (live (Rs.map ABlk.row)) 2 rfl
  have q4 := i7.scp (live (Rs.map ABlk.row)) 3 rfl
  simp [scp,scpA,scpL,q1,q2,q3,q4]
 ·intro k hk
  obtain ⟨R,_,rfl⟩ := List.mem_map.1 hk
  exact ⟨R,rfl⟩
 ·have := iL.arg (Rs.map ABlk.row) 0 rfl
  have e : (List.map inOf L).length = List.length (α := instSh.Val) L := List.length_map _
  exact Eq.subst (motive := fun n => ArgRow (Rs.map ABlk.row) (FL 0) (rowI (List.map inOf L)) n) e.symm this
 ·exact iz.arg (Rs.map ABlk.row) 1 rfl
 ·have := ii.arg (Rs.map ABlk.row) 2 rfl
  have e : (List.map Int.toNat ini).length = List.length (α := Int) ini := List.length_map _
  exact Eq.subst (motive := fun n => ArgRow (Rs.map ABlk.row) (Fi 2) (w32 (List.map Int.toNat ini)) n) e.symm this
 ·have := i7.arg (Rs.map ABlk.row) 3 rfl
  have e : (List.map Int.toNat r7).length = List.length (α := Int) r7 := List.length_map _
  exact Eq.subst (motive := fun n => ArgRow (Rs.map ABlk.row) (F7 3) (w32 (List.map Int.toNat r7)) n) e.symm this
 ·have := io.arg (Rs.map ABlk.row) 4 rfl
  simpa using this
theorem bridge_rows {P : Program} {F : FuncId} {args : List Value} {us : Array Value} {h : AH} {ρ : Ren} {w : World} (hb : AC P F args h (fun v _ => v = .bool true)) (r : Rel ρ h w) (hrows : ∀ k ∈ h,∃ vs,k = ABlk.row vs) (hs : us.size = args.length)
  (hargs : ∀ (i : Nat) (v : Value),args[i]? = some v → ∃ u,us[i]? = some u ∧ VR ρ (live h) v u) : Calls P F us w fun e w' => e = .returned (.bool true) ∧ Mod [] w w' := by
 have hc := hb.2 ρ w us r hs hargs
 refine Calls.mono hc ?_
 rintro e w' ⟨v, u, h', ρ', rfl, vr, rfl, r', nx, _⟩
 refine ⟨?_,⟨nx.os,nx.tape,nx.output,nx.size,fun k hk _ => nx.keep k hk fun b kk hb => ?_⟩⟩
 ·rw [vr.2]; rfl
 ·obtain ⟨vs,rfl⟩ := hrows kk (List.mem_of_getElem? hb)
  simp [ABlk.foot]
end Go.Proofs.Ytongllppbifiaaa

import Derived.Test.YtongllppbifiaaaW9
namespace Go.Proofs.Ytongllppbifiaaa
namespace Px
open Go Abs Code
set_option linter.unusedVariables false
set_option linter.unusedSimpArgs false
set_option maxRecDepth 100000
theorem or_add (g n : Nat) (hn : n < 4096) : g * 4096 ||| n = g * 4096 + n := by
 have := Nat.shiftLeft_add_eq_or_of_lt (b := n) (i := 12) (by simpa using hn) g
 rw [Nat.shiftLeft_eq] at this
 simpa using this.symm
theorem or64 (g n : Nat) (hg : g < 262144) (hn : n < 4096) : (BitVec.ofInt 64 ((g * 4096 : Nat) : Int) ||| BitVec.ofInt 64 (n : Int)).toNat = g * 4096 + n := by
 rw [BitVec.toNat_or,BitVec.toNat_ofInt,BitVec.toNat_ofInt]
 have e1 : (((g * 4096 : Nat) : Int) % ((2 ^ 64 : Nat) : Int)).toNat = g * 4096 := by omega
 have e2 : ((n : Int) % ((2 ^ 64 : Nat) : Int)).toNat = n := by omega
 rw [e1,e2]
 exact or_add g n hn
theorem and32 (h m k : Nat) (hh : h < 4294967296) (hm : m = 2 ^ k - 1) (hk : k ≤ 32) : (BitVec.ofNat 32 h &&& BitVec.ofNat 32 m).toNat = h % 2 ^ k := by
 have hm2 : m < 4294967296 := by
  have : 2 ^ k ≤ 2 ^ 32 := Nat.pow_le_pow_right (by omega) hk
  omega
 rw [BitVec.toNat_and,BitVec.toNat_ofNat,BitVec.toNat_ofNat,Nat.mod_eq_of_lt (by simpa using hh),Nat.mod_eq_of_lt (by simpa using hm2),hm]
 exact Nat.and_two_pow_sub_one_eq_mod h k
theorem u32w (n : Nat) (h : n < 4294967296) : IntKind.u32.wrap (n : Int) = n := by
 unfold IntKind.wrap
 simp [IntKind.signed,IntKind.bits]
 omega
theorem i64w (n : Nat) (h : n < 4294967296) : IntKind.i64.wrap (n : Int) = n := IntWalk.i64_in _ (by omega)
def hOf (n g : Nat) : Nat := g * 4096 + n
theorem hnew_ (n g : Nat) (hn : n < 4096) (hg : g < 262144) (h : AH) {K : Value → AH → Prop} (hK : K (.tuple #[.int .u32 (hOf n g),.int .i64 0]) h) : AC Try.prog 45 [.int .i64 n,.int .i64 g] h K := by
 have a1 : ¬ (n : Int) < 0 := by omega
 have a2 : ¬ (4096 : Int) ≤ n := by omega
 have a3 : ¬ (g : Int) < 0 := by omega
 have a4 : ¬ (262144 : Int) ≤ g := by omega
 have w1 : IntKind.i64.wrap ((g : Int) * 4096) = ((g * 4096 : Nat) : Int) := by rw [IntWalk.i64_in _ (by omega)]; omega
 refine entry hmix cf45 ?_
 simp (maxSteps := 2000000) (implicitDefEqProofs := false) [DN,NB,begT,atHead,kd,wantedA,evP,evR,evF,evL,evC,evI,evBin,evUn,evEq,evSt,evRes,plain,scp,scpA,scpL,rdRow_eq,RV,rdCells,veq,veqA,veqL,isHole,Value.cells,evalL,optI,evBounds,evFill,evFillR,evApp,newsOf,wrCells,one1,fitsApp,evClr,undef,onB_bool,List.getElem?_concat_length,List.getElem?_cons_zero,List.getElem?_cons_succ,List.getElem?_toArray,List.getElem?_nil,List.set_cons_zero,List.set_cons_succ,List.cons_append,List.nil_append,-getElem?_pos,-getElem?_neg,a1,a2,a3,a4,w1,IntKind.bits]
 refine (congrArg (fun z => K (.tuple #[.int .u32 z,.int .i64 0]) h) ?_).mpr hK
 have e1 : BitVec.ofInt 64 ((g : Int) * 4096) = BitVec.ofInt 64 ((g * 4096 : Nat) : Int) := by congr 1
 have e2 : BitVec.ofNat 64 n = BitVec.ofInt 64 (n : Int) := by simp
 show IntKind.u32.wrap (IntKind.i64.wrap ((BitVec.ofInt 64 ((g : Int) * 4096) ||| BitVec.ofNat 64 n).toNat : Int)) = _
 rw [e1,e2,or64 g n hg hn,IntWalk.i64_in _ (by omega),u32w _ (by omega)]
 rfl
theorem hindex_ (x n : Nat) (hx : x < 4294967296) (hn : x % 4096 = n) (h : AH) {K : Value → AH → Prop} (hK : K (.int .i64 n) h) : AC Try.prog 59 [.int .u32 x] h K := by
 refine entry hmix cf59 ?_
 simp (maxSteps := 2000000) (implicitDefEqProofs := false) [DN,NB,begT,atHead,kd,wantedA,evP,evR,evF,evL,evC,evI,evBin,evUn,evEq,evSt,evRes,plain,scp,scpA,scpL,rdRow_eq,RV,rdCells,veq,veqA,veqL,isHole,Value.cells,evalL,optI,evBounds,evFill,evFillR,evApp,newsOf,wrCells,one1,fitsApp,evClr,undef,onB_bool,List.getElem?_concat_length,List.getElem?_cons_zero,List.getElem?_cons_succ,List.getElem?_toArray,List.getElem?_nil,List.set_cons_zero,List.set_cons_succ,List.cons_append,List.nil_append,-getElem?_pos,-getElem?_neg,IntKind.bits]
 refine (congrArg (fun z => K (.int .i64 z) h) ?_).mpr hK
 have e := and32 x 4095 12 hx (by decide) (by decide)
 show IntKind.i64.wrap (IntKind.u32.wrap ((BitVec.ofNat 32 x &&& BitVec.ofNat 32 4095).toNat : Int)) = _
 rw [e,u32w _ (by omega),i64w _ (by omega)]
 omega
theorem hgen_ (x g : Nat) (hx : x < 4294967296) (hg : x / 4096 % 262144 = g) (h : AH) {K : Value → AH → Prop} (hK : K (.int .i64 g) h) : AC Try.prog 82 [.int .u32 x] h K := by
 refine entry hmix cf82 ?_
 simp (maxSteps := 2000000) (implicitDefEqProofs := false) [DN,NB,begT,atHead,kd,wantedA,evP,evR,evF,evL,evC,evI,evBin,evUn,evEq,evSt,evRes,plain,scp,scpA,scpL,rdRow_eq,RV,rdCells,veq,veqA,veqL,isHole,Value.cells,evalL,optI,evBounds,evFill,evFillR,evApp,newsOf,wrCells,one1,fitsApp,evClr,undef,onB_bool,List.getElem?_concat_length,List.getElem?_cons_zero,List.getElem?_cons_succ,List.getElem?_toArray,List.getElem?_nil,List.set_cons_zero,List.set_cons_succ,List.cons_append,List.nil_append,-getElem?_pos,-getElem?_neg,IntKind.bits]
 refine (congrArg (fun z => K (.int .i64 z) h) ?_).mpr hK
 have e := and32 (x / 4096) 262143 18 (by omega) (by decide) (by decide)
 have e2 : BitVec.ofInt 32 ((x : Int).fdiv 4096) = BitVec.ofNat 32 (x / 4096) := by
  have : (x : Int).fdiv 4096 = ((x / 4096 : Nat) : Int) := by rw [Int.fdiv_eq_ediv_of_nonneg _ (by omega)]; omega
  rw [this]
  exact BitVec.ofInt_natCast 32 (x / 4096)
 show IntKind.i64.wrap (IntKind.u32.wrap ((BitVec.ofInt 32 ((x : Int).fdiv 4096) &&& BitVec.ofNat 32 262143).toNat : Int)) = _
 rw [e2,e,u32w _ (by omega),i64w _ (by omega)]
 omega
theorem rindex_ (x n : Nat) (hx : x < 4294967296) (hn : x % 4096 = n) (h : AH) {K : Value → AH → Prop} (hK : K (.int .i64 n) h) : AC Try.prog 67 [.int .u32 x] h K := by
 have w1 := i64w x hx
 refine entry hmix cf67 ?_
 simp (maxSteps := 2000000) (implicitDefEqProofs := false) [DN,NB,begT,atHead,kd,wantedA,evP,evR,evF,evL,evC,evI,evBin,evUn,evEq,evSt,evRes,plain,scp,scpA,scpL,rdRow_eq,RV,rdCells,veq,veqA,veqL,isHole,Value.cells,evalL,optI,evBounds,evFill,evFillR,evApp,newsOf,wrCells,one1,fitsApp,evClr,undef,onB_bool,List.getElem?_concat_length,List.getElem?_cons_zero,List.getElem?_cons_succ,List.getElem?_toArray,List.getElem?_nil,List.set_cons_zero,List.set_cons_succ,List.cons_append,List.nil_append,-getElem?_pos,-getElem?_neg,w1]
 refine (congrArg (fun z => K (.int .i64 z) h) ?_).mpr hK
 rw [Int.tmod_eq_emod_of_nonneg (by omega)]
 omega
theorem rgen_ (x g : Nat) (hx : x < 4294967296) (hg : x / 4096 % 262144 = g) (h : AH) {K : Value → AH → Prop} (hK : K (.int .i64 g) h) : AC Try.prog 68 [.int .u32 x] h K := by
 have w1 := i64w x hx
 have w2 : IntKind.i64.wrap ((x : Int) / 4096) = ((x / 4096 : Nat) : Int) := by
  have : (x : Int) / 4096 = ((x / 4096 : Nat) : Int) := by omega
  rw [this,i64w _ (by omega)]
 refine entry hmix cf68 ?_
 simp (maxSteps := 2000000) (implicitDefEqProofs := false) [DN,NB,begT,atHead,kd,wantedA,evP,evR,evF,evL,evC,evI,evBin,evUn,evEq,evSt,evRes,plain,scp,scpA,scpL,rdRow_eq,RV,rdCells,veq,veqA,veqL,isHole,Value.cells,evalL,optI,evBounds,evFill,evFillR,evApp,newsOf,wrCells,one1,fitsApp,evClr,undef,onB_bool,List.getElem?_concat_length,List.getElem?_cons_zero,List.getElem?_cons_succ,List.getElem?_toArray,List.getElem?_nil,List.set_cons_zero,List.set_cons_succ,List.cons_append,List.nil_append,-getElem?_pos,-getElem?_neg,w1,w2]
 refine (congrArg (fun z => K (.int .i64 z) h) ?_).mpr hK
 first | omega | (rw [w2,Int.tmod_eq_emod_of_nonneg (by omega)]; omega) | (rw [Int.tmod_eq_emod_of_nonneg (by omega)]; omega)
def hNext (x : Nat) : Nat := hOf (x % 4096) ((x / 4096 % 262144 + 1) % 262144)
theorem hnext_ (x : Nat) (hx : x < 4294967296) (h : AH) {K : Value → AH → Prop} (hK : K (.int .u32 (hNext x : Nat)) h) : AC Try.prog 58 [.int .u32 x] h K := by
 obtain ⟨g,hg⟩ : ∃ g,x / 4096 % 262144 = g := ⟨_,rfl⟩
 obtain ⟨n,hn⟩ : ∃ n,x % 4096 = n := ⟨_,rfl⟩
 obtain ⟨g', hg'⟩ : ∃ g', (g + 1) % 262144 = g' := ⟨_, rfl⟩
 have hg2 : g < 262144 := by omega
 have w1 : IntKind.i64.wrap ((g : Int) + 1) = (g : Int) + 1 := IntWalk.i64_in _ (by omega)
 have w2 : Int.tmod ((g : Int) + 1) 262144 = (g' : Int) := by rw [Int.tmod_eq_emod_of_nonneg (by omega)]; omega
 have : hNext x = hOf n g' := by unfold hNext; rw [hn,hg,hg']
 rw [this] at hK
 refine entry hmix cf58 ?_
 simp (maxSteps := 2000000) (implicitDefEqProofs := false) [DN,NB,begT,atHead,kd,wantedA,evP,evR,evF,evL,evC,evI,evBin,evUn,evEq,evSt,evRes,plain,scp,scpA,scpL,rdRow_eq,RV,rdCells,veq,veqA,veqL,isHole,Value.cells,evalL,optI,evBounds,evFill,evFillR,evApp,newsOf,wrCells,one1,fitsApp,evClr,undef,onB_bool,List.getElem?_concat_length,List.getElem?_cons_zero,List.getElem?_cons_succ,List.getElem?_toArray,List.getElem?_nil,List.set_cons_zero,List.set_cons_succ,List.cons_append,List.nil_append,-getElem?_pos,-getElem?_neg]
 refine hindex_ x n hx hn _ ?_
 simp (maxSteps := 2000000) (implicitDefEqProofs := false) [DN,NB,begT,atHead,kd,wantedA,evP,evR,evF,evL,evC,evI,evBin,evUn,evEq,evSt,evRes,plain,scp,scpA,scpL,rdRow_eq,RV,rdCells,veq,veqA,veqL,isHole,Value.cells,evalL,optI,evBounds,evFill,evFillR,evApp,newsOf,wrCells,one1,fitsApp,evClr,undef,onB_bool,List.getElem?_concat_length,List.getElem?_cons_zero,List.getElem?_cons_succ,List.getElem?_toArray,List.getElem?_nil,List.set_cons_zero,List.set_cons_succ,List.cons_append,List.nil_append,-getElem?_pos,-getElem?_neg]
 refine hgen_ x g hx hg _ ?_
 simp (maxSteps := 2000000) (implicitDefEqProofs := false) [DN,NB,begT,atHead,kd,wantedA,evP,evR,evF,evL,evC,evI,evBin,evUn,evEq,evSt,evRes,plain,scp,scpA,scpL,rdRow_eq,RV,rdCells,veq,veqA,veqL,isHole,Value.cells,evalL,optI,evBounds,evFill,evFillR,evApp,newsOf,wrCells,one1,fitsApp,evClr,undef,onB_bool,List.getElem?_concat_length,List.getElem?_cons_zero,List.getElem?_cons_succ,List.getElem?_toArray,List.getElem?_nil,List.set_cons_zero,List.set_cons_succ,List.cons_append,List.nil_append,-getElem?_pos,-getElem?_neg,w1,w2]
 refine hnew_ n g' (by omega) (by omega) _ ?_
 simp (maxSteps := 2000000) (implicitDefEqProofs := false) [DN,NB,begT,atHead,kd,wantedA,evP,evR,evF,evL,evC,evI,evBin,evUn,evEq,evSt,evRes,plain,scp,scpA,scpL,rdRow_eq,RV,rdCells,veq,veqA,veqL,isHole,Value.cells,evalL,optI,evBounds,evFill,evFillR,evApp,newsOf,wrCells,one1,fitsApp,evClr,undef,onB_bool,List.getElem?_concat_length,List.getElem?_cons_zero,List.getElem?_cons_succ,List.getElem?_toArray,List.getElem?_nil,List.set_cons_zero,List.set_cons_succ,List.cons_append,List.nil_append,-getElem?_pos,-getElem?_neg]
 exact hK
end Px
end Go.Proofs.Ytongllppbifiaaa

import Derived.Test.YtannhfnpigiggaaGreatDoorPl21
import Derived.Test.YtannhfnpigiggaaGreatDoorPl23
namespace Go.Proofs.YtannhfnpigiggaaGreatDoor
set_option linter.unusedSimpArgs false
set_option linter.unusedVariables false
open Go.RowKit
abbrev fnC(f:Nat):Value:=.func (.func f) #[] #[]
def numPs:List (List UInt8 × Value):=numFs.map fun f=>(f,fnC (numFn f))
def txtPs:List (List UInt8 × Value):=txtFs.map fun f=>(f,fnC (txtFn f))
theorem map_num:Tryz.prog.underlying 234=some (.map 9 160):=by kernel_rfl
theorem map_txt:Tryz.prog.underlying 237=some (.map 9 163):=by kernel_rfl
theorem amap_new(w:World):AMap (w.alloc (.map #[] 0)) w.heap.size []:=⟨#[],0,heap_alloc_new _ _,rfl⟩
set_option maxHeartbeats 1000000 in
set_option maxRecDepth 100000 in
theorem sc_numberFields(w:World):Calls Tryz.prog 153 #[] w fun e w'=>(∃b,e=.returned (.map (some b))/\AMap w' b numPs)/\Below w.heap.size w w':=by
 have hK:=Tryz.underlying9
 have hmm:=fun wx => @run_makeMap Tryz.prog wx
 have m0:=amap_new w
 obtain⟨w1,h1,m1,g1,z1⟩:=m0.put hK map_num ⟨#[97,103,101]⟩ (fnC 167) (by decide)
 obtain⟨w2,h2,m2,g2,z2⟩:=m1.put hK map_num ⟨#[98,121,116,101,115]⟩ (fnC 168) (by decide)
 obtain⟨w3,h3,m3,g3,z3⟩:=m2.put hK map_num ⟨#[108,105,110,101,115]⟩ (fnC 169) (by decide)
 obtain⟨w4,h4,m4,g4,z4⟩:=m3.put hK map_num ⟨#[100,101,112,116,104]⟩ (fnC 170) (by decide)
 obtain⟨w5,h5,m5,g5,z5⟩:=m4.put hK map_num ⟨#[97,110,115,119,101,114,115]⟩ (fnC 171) (by decide)
 have HB:=Lib.hid (show Below w.heap.size w w5 from by
  have e:∀k,some w.heap.size=some k->w.heap.size<=k:=fun k h=>by injection h with h;omega
  have hz:w.heap.size<=(w.alloc (.map #[] 0)).heap.size:=by simp
  exact(((((alloc_bel w _).grown g1 hz e).grown g2 (by omega) e).grown g3 (by omega) e).grown g4 (by omega) e).grown g5 (by omega) e)
 have HM:=Lib.hid m5
 clear m0 m1 m2 m3 m4 m5 g1 g2 g3 g4 g5 z1 z2 z3 z4 z5
 go_enter Tryz.func153,Tryz.ntmps153
 go_wp2_with fail
 go_ret
 exact⟨⟨_,rfl,HM.out⟩,HB.out⟩
end Go.Proofs.YtannhfnpigiggaaGreatDoor

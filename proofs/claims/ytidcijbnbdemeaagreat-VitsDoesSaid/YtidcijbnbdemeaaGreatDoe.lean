/-
  The walks and the laws beneath the statement: part 5.
-/
import Derived.Test.YtidcijbnbdemeaaGreatDod
set_option maxRecDepth 100000
set_option linter.unusedVariables false
set_option linter.unusedSimpArgs false
set_option maxHeartbeats 4000000
namespace Go.Proofs.YtidcijbnbdemeaaGreat
open Go X
def zzax (a0:Option Addr) (a0_n a0_c:Nat) (a1 a2:Int) (w:World) (Q:Value→World→Prop):Prop:=slL a0 a0_n a0_c 1 (some a1) (some a2) (some ((a0_n:Nat):Int)) fun p6 l7 c8=>cnd (a1 == a2) (Q (.slice a0 a0_n a0_c) w) (drw w fun w=>slL a0 a0_n a0_c 1 none (some a1) none fun p10 l11 c12=>slL a0 a0_n a0_c 1 (some a2) none none fun p13 l14 c15=>runS P (Builtin.append_ #[T.t22,T.t22] T.t22 [.slice p10 l11 c12,.slice p13 l14 c15].toArray) w fun p16 l17 c18 w=>slL p16 l17 c18 1 (some ((l17:Nat):Int)) (some ((a0_n:Nat):Int)) none fun p20 l21 c22=>runV P (Builtin.clear_ #[T.t22] T.t0 [.slice p20 l21 c22].toArray) w fun v23 w=>v23 = undef∧Q (.slice p16 l17 c18) w)
def zzig:Nat→Option LSp:=fun | 62=>some (ordSpec [0,1,2,3,4,5,6,7]) | _=>none
theorem zziL {a0 a0_n a0_c a1 a2 w Q} (h:zzax a0 a0_n a0_c a1 a2 w Q):CV P F.zzax [.slice a0 a0_n a0_c,zI a1,zI a2] w Q:=CV_of (ann:=zzig) mixed Tryz.func116 (Eq.mp (by kernel_rfl) h)
def zzaj (a0:Option Addr) (a0_n a0_c:Nat) (a1 a2:Int) (w:World) (Q:Value→World→Prop):Prop:=slL a0 a0_n a0_c 2 (some a1) (some a2) (some ((a0_n:Nat):Int)) fun p6 l7 c8=>cnd (a1 == a2) (Q (.slice a0 a0_n a0_c) w) (drw w fun w=>slL a0 a0_n a0_c 2 none (some a1) none fun p10 l11 c12=>slL a0 a0_n a0_c 2 (some a2) none none fun p13 l14 c15=>runS P (Builtin.append_ #[T.t137,T.t137] T.t137 [.slice p10 l11 c12,.slice p13 l14 c15].toArray) w fun p16 l17 c18 w=>slL p16 l17 c18 2 (some ((l17:Nat):Int)) (some ((a0_n:Nat):Int)) none fun p20 l21 c22=>runV P (Builtin.clear_ #[T.t137] T.t0 [.slice p20 l21 c22].toArray) w fun v23 w=>v23 = undef∧Q (.slice p16 l17 c18) w)
def zzeC:Nat→Option LSp:=fun | 62=>some (ordSpec [0,1,2,3,4,5,6,7]) | _=>none
theorem zzeI {a0 a0_n a0_c a1 a2 w Q} (h:zzaj a0 a0_n a0_c a1 a2 w Q):CV P F.zzaj [.slice a0 a0_n a0_c,zI a1,zI a2] w Q:=CV_of (ann:=zzeC) mixed Tryz.func117 (Eq.mp (by kernel_rfl) h)
def zzaf (a0:Option Addr) (a0_n a0_c:Nat) (a1:Int) (a2:Option Addr) (a2_n a2_c:Nat) (w:World) (Q:Value→World→Prop):Prop:=slL a0 a0_n a0_c 3 (some a1) none none fun p8 l9 c10=>cnd (((a2_n:Nat):Int) == 0) (Q (.slice a0 a0_n a0_c) w) (cnd (a1 == ((a0_n:Nat):Int)) (runS P (Builtin.append_ #[T.t140,T.t140] T.t140 [.slice a0 a0_n a0_c,.slice a2 a2_n a2_c].toArray) w fun p11 l12 c13 w=>Q (.slice p11 l12 c13) w) (cnd (decide ((IntKind.i64.wrap (((a0_n:Nat):Int) + ((a2_n:Nat):Int))) > ((a0_c:Nat):Int))) (slL a0 a0_n a0_c 3 none (some a1) none fun p15 l16 c17=>runS P (Builtin.append_ #[T.t140,T.t3] T.t140 [.slice p15 l16 c17,zI (IntKind.i64.wrap ((IntKind.i64.wrap (((a0_n:Nat):Int) + ((a2_n:Nat):Int))) - a1))].toArray) w fun p18 l19 c20 w=>slL p18 l19 c20 3 (some a1) none none fun p22 l23 c24=>runI P (Builtin.copy_ #[T.t140,T.t140] T.t3 [.slice p22 l23 c24,.slice a2 a2_n a2_c].toArray) w fun n25 w=>drw w fun w=>slL p18 l19 c20 3 (some (IntKind.i64.wrap (a1 + ((a2_n:Nat):Int)))) none none fun p28 l29 c30=>slL a0 a0_n a0_c 3 (some a1) none none fun p31 l32 c33=>runI P (Builtin.copy_ #[T.t140,T.t140] T.t3 [.slice p28 l29 c30,.slice p31 l32 c33].toArray) w fun n34 w=>Q (.slice p18 l19 c20) w) (slL a0 a0_n a0_c 3 none (some (IntKind.i64.wrap (((a0_n:Nat):Int) + ((a2_n:Nat):Int)))) none fun p36 l37 c38=>slL p36 l37 c38 3 (some (IntKind.i64.wrap (a1 + ((a2_n:Nat):Int)))) none none fun p39 l40 c41=>extX P F.zzda [.slice a2 a2_n a2_c,.slice p39 l40 c41] w fun v42 w=>∃ b44:Bool,v42 = .bool b44∧cnd (!b44) (drw w fun w=>slL p36 l37 c38 3 (some (IntKind.i64.wrap (a1 + ((a2_n:Nat):Int)))) none none fun p46 l47 c48=>slL p36 l37 c38 3 (some a1) none none fun p49 l50 c51=>runI P (Builtin.copy_ #[T.t140,T.t140] T.t3 [.slice p46 l47 c48,.slice p49 l50 c51].toArray) w fun n52 w=>slL p36 l37 c38 3 (some a1) none none fun p54 l55 c56=>runI P (Builtin.copy_ #[T.t140,T.t140] T.t3 [.slice p54 l55 c56,.slice a2 a2_n a2_c].toArray) w fun n57 w=>Q (.slice p36 l37 c38) w) (slL p36 l37 c38 3 (some ((a0_n:Nat):Int)) none none fun p59 l60 c61=>runI P (Builtin.copy_ #[T.t140,T.t140] T.t3 [.slice p59 l60 c61,.slice a2 a2_n a2_c].toArray) w fun n62 w=>slL p36 l37 c38 3 (some a1) none none fun p64 l65 c66=>CV P F.zzcD [.slice p64 l65 c66,zI ((a2_n:Nat):Int)] w fun v67 w=>v67 = .tuple [].toArray∧Q (.slice p36 l37 c38) w))))
def zzfd:Nat→Option LSp:=fun | 8150=>some (ordSpec [0,1,2,3,4,5,6,7,8]) | 8180=>some (ordSpec [0,1,2,3,4,5,6,7,8]) | _=>none
theorem zzfp {a0 a0_n a0_c a1 a2 a2_n a2_c w Q} (h:zzaf a0 a0_n a0_c a1 a2 a2_n a2_c w Q):CV P F.zzaf [.slice a0 a0_n a0_c,zI a1,.slice a2 a2_n a2_c] w Q:=CV_of (ann:=zzfd) mixed Tryz.func118 (Eq.mp (by kernel_rfl) h)
def zzgu:LSp:=spII .u64 12 .i64 25
def zzhm (Q:Value→World→Prop) (p12:Option Addr) (l13:Nat) (n15 n18 n19:Int) (w:World) (A21:zzgu.S→World→Prop):Prop:=cnd (decide (n19 < ((l13:Nat):Int))) (ix n19 l13 fun j22=>nn p12 fun a23=>ldI .u8 (a23.add (j22 * 1)) w fun n24=>(nng (IntKind.i64.wrap (8 * n19)) <| A21 (((bitX .or .u64 n18 (IntKind.u64.wrap ((IntKind.u64.wrap (n24)) * 2 ^ min (Int.toNat (IntKind.i64.wrap (8 * n19))) (IntKind.u64.bits)))):Int),((IntKind.i64.wrap (n19 + 1)):Int)) w)) (Q (.tuple [.int .u64 n18,zI n15].toArray) w)
def zzdE (a0:Option Addr) (a1_0 a1_1:Int) (a2 a3:Int) (w:World) (Q:Value→World→Prop):Prop:=alc [zI a1_0,zI a1_1] T.t33 w fun b6 w=>ldi b6 0 w fun n8=>ldi b6 1 w fun n9=>CV P F.zzes [.pointer a0,.agg [zI n8,zI n9].toArray,zI a2,zI a3] w fun v10 w=>∃ (p12:Option Addr) (l13 c14:Nat),∃ n15:Int,v10 = .tuple [.slice p12 l13 c14,zI n15].toArray∧LoopT (fun (s25:zzgu.S) w A27=>zzhm Q p12 l13 n15 s25.1 s25.2 w A27) ((0:Int),(0:Int)) w
def zzl0:Nat→Option LSp:=fun | 122=>some zzgu | _=>none
theorem zzl7 {a0 a1_0 a1_1 a2 a3 w Q} (h:zzdE a0 a1_0 a1_1 a2 a3 w Q):CV P F.zzdE [.pointer a0,.agg [zI a1_0,zI a1_1].toArray,zI a2,zI a3] w Q:=CV_of (ann:=zzl0) mixed Tryz.func119 (Eq.mp (by kernel_rfl) h)
def zzfX:LSp:=spI .i64 5
def zzhn:LSp:=spU
def zzko (n23:Int) (A25:zzfX.S→World→Prop) (w:World):Prop:=A25 (((IntKind.i64.wrap (n23 + 1)):Int)) w
def zzhN:LSp:=spB 53
def zzih (Q:Value→World→Prop) (b7 b11:Nat) (b73:Bool) (w:World):Prop:=cnd b73 (sto (zI 0) b7 0 w fun w=>sto (zI 0) b7 1 w fun w=>sto (zI 0) b7 2 w fun w=>sto (zI 0) b7 3 w fun w=>sto (zI 0) b7 4 w fun w=>sto (zI 0) b7 5 w fun w=>sto (zI 0) b7 6 w fun w=>sto (zI 0) b7 7 w fun w=>sto (.bool false) b7 8 w fun w=>ldi b7 0 w fun n84=>ldi b7 1 w fun n85=>ldi b7 2 w fun n86=>ldi b7 3 w fun n87=>ldi b7 4 w fun n88=>ldi b7 5 w fun n89=>ldi b7 6 w fun n90=>ldi b7 7 w fun n91=>zldB b7 8 w fun b92=>Q (.tuple [.agg [zI n84,zI n85,zI n86,zI n87,zI n88,zI n89,zI n90,zI n91,.bool b92].toArray,zI 160].toArray) w) (ldi b11 0 w fun n93=>ldi b11 1 w fun n94=>ldi b11 2 w fun n95=>ldi b11 3 w fun n96=>ldi b11 4 w fun n97=>ldi b11 5 w fun n98=>ldi b11 6 w fun n99=>ldi b11 7 w fun n100=>zldB b11 8 w fun b101=>sto (zI n93) b7 0 w fun w=>sto (zI n94) b7 1 w fun w=>sto (zI n95) b7 2 w fun w=>sto (zI n96) b7 3 w fun w=>sto (zI n97) b7 4 w fun w=>sto (zI n98) b7 5 w fun w=>sto (zI n99) b7 6 w fun w=>sto (zI n100) b7 7 w fun w=>sto (.bool b101) b7 8 w fun w=>ldi b7 0 w fun n111=>ldi b7 1 w fun n112=>ldi b7 2 w fun n113=>ldi b7 3 w fun n114=>ldi b7 4 w fun n115=>ldi b7 5 w fun n116=>ldi b7 6 w fun n117=>ldi b7 7 w fun n118=>zldB b7 8 w fun b119=>Q (.tuple [.agg [zI n111,zI n112,zI n113,zI n114,zI n115,zI n116,zI n117,zI n118,.bool b119].toArray,zI 0].toArray) w)
def zzkp (Q:Value→World→Prop) (b5 b7 b11:Nat) (n23:Int) (w:World) (A25:zzfX.S→World→Prop):Prop:=cnd (decide (n23 < 8)) (JoinT (fun (J27:zzhn.S→World→Prop)=>ldi b11 0 w fun n28=>CV P F.zzeL [zI n28,zI n23] w fun v29 w=>∃ n31 n32 n33:Int,∃ b34:Bool,v29 = .tuple [.agg [zI n31,zI n32,zI n33].toArray,.bool b34].toArray∧alc [zI 0,zI 0,zI 0] T.t147 w fun b35 w=>sto (zI n31) b35 0 w fun w=>sto (zI n32) b35 1 w fun w=>sto (zI n33) b35 2 w fun w=>cnd b34 (drw w fun w=>ldi b35 0 w fun n41=>ix n41 4 fun j42=>ldI .u64 (Addr.add ⟨b5,0,none⟩ (j42 * 1)) w fun n43=>ldi b35 1 w fun n44=>(nng n44 <| ldi b35 2 w fun n45=>(nng n45 <| CV P F.zziP [.pointer (some ⟨b11,0,none⟩),zI n23,zI (IntKind.i64.wrap ((bitX .and .u64 (Int.fdiv n43 (2 ^ min (Int.toNat n44) (IntKind.u64.bits))) (IntKind.u64.wrap ((IntKind.u64.wrap (1 * 2 ^ min (Int.toNat n45) (IntKind.u64.bits))) - 1)))))] w fun v46 w=>v46 = .tuple [].toArray∧J27 () w))) (J27 () w)) fun (s48:zzhn.S) w=>zzko n23 A25 w) (ldi b11 0 w fun n50=>ldi b11 1 w fun n51=>ldi b11 2 w fun n52=>ldi b11 3 w fun n53=>ldi b11 4 w fun n54=>ldi b11 5 w fun n55=>ldi b11 6 w fun n56=>ldi b11 7 w fun n57=>zldB b11 8 w fun b58=>CV P F.zzeK [.agg [zI n50,zI n51,zI n52,zI n53,zI n54,zI n55,zI n56,zI n57,.bool b58].toArray] w fun v59 w=>∃ n61 n62:Int,∃ n63 n64 n65:Int,v59 = .tuple [.agg [.int .u64 n61,.int .u64 n62,.int .u64 n63,.int .u64 n64].toArray,zI n65].toArray∧alc [.int .u64 0,.int .u64 0,.int .u64 0,.int .u64 0] T.t90 w fun b66 w=>sto (.int .u64 n61) b66 0 w fun w=>sto (.int .u64 n62) b66 1 w fun w=>sto (.int .u64 n63) b66 2 w fun w=>sto (.int .u64 n64) b66 3 w fun w=>JoinT (fun (J120:zzhN.S→World→Prop)=>cnd (n65 != 0) (J120 true w) (ldI .u64 ⟨b66,0,none⟩ w fun n121=>ldI .u64 ⟨b66,1,none⟩ w fun n122=>ldI .u64 ⟨b66,2,none⟩ w fun n123=>ldI .u64 ⟨b66,3,none⟩ w fun n124=>ldI .u64 ⟨b5,0,none⟩ w fun n125=>ldI .u64 ⟨b5,1,none⟩ w fun n126=>ldI .u64 ⟨b5,2,none⟩ w fun n127=>ldI .u64 ⟨b5,3,none⟩ w fun n128=>eqA P .neq T.t90 (.agg [.int .u64 n121,.int .u64 n122,.int .u64 n123,.int .u64 n124].toArray) (.agg [.int .u64 n125,.int .u64 n126,.int .u64 n127,.int .u64 n128].toArray) w fun b129=>J120 ((b129:Bool)) w)) fun (s130:zzhN.S) w=>zzih Q b7 b11 s130 w)
def zzfV (a0_0 a0_1:Int) (a0_2 a0_3:Int) (w:World) (Q:Value→World→Prop):Prop:=alc [.int .u64 a0_0,.int .u64 a0_1,.int .u64 a0_2,.int .u64 a0_3] T.t90 w fun b5 w=>alc [zI 0,zI 0,zI 0,zI 0,zI 0,zI 0,zI 0,zI 0,.bool false] T.t26 w fun b7 w=>ix 0 4 fun j9=>ldI .u64 (Addr.add ⟨b5,0,none⟩ (j9 * 1)) w fun n10=>alc [zI 0,zI 0,zI 0,zI 0,zI 0,zI 0,zI 0,zI 0,.bool false] T.t26 w fun b11 w=>st1 (zI (IntKind.i64.wrap ((bitX .and .u64 n10 255)))) ⟨b11,0,none⟩ w fun w=>sto (zI 0) b11 1 w fun w=>sto (zI 0) b11 2 w fun w=>sto (zI 0) b11 3 w fun w=>sto (zI 0) b11 4 w fun w=>sto (zI 0) b11 5 w fun w=>sto (zI 0) b11 6 w fun w=>sto (zI 0) b11 7 w fun w=>sto (.bool false) b11 8 w fun w=>LoopT (fun (s132:zzfX.S) w A134=>zzkp Q b5 b7 b11 s132 w A134) ((0:Int)) w
def zzmg:Nat→Option LSp:=fun | 58=>some zzfX | 466=>some zzhn | 7462=>some (ordSpec [0,1,2,3,4,5,6,7,8,9,10,11,12,13,14]) | 61=>some zzhN | _=>none
theorem zzmn {a0_0 a0_1 a0_2 a0_3 w Q} (h:zzfV a0_0 a0_1 a0_2 a0_3 w Q):CV P F.zzfV [.agg [.int .u64 a0_0,.int .u64 a0_1,.int .u64 a0_2,.int .u64 a0_3].toArray] w Q:=CV_of (ann:=zzmg) mixed Tryz.func120 (Eq.mp (by kernel_rfl) h)
def zzjG:LSp:=spB 2
def zzlT (Q:Value→World→Prop) (b6:Bool) (w:World):Prop:=Q (.bool b6) w
def zziR (a0_0 a0_1:Int) (w:World) (Q:Value→World→Prop):Prop:=alc [zI a0_0,zI a0_1] T.t33 w fun b3 w=>JoinT (fun (J8:zzjG.S→World→Prop)=>ldi b3 0 w fun n9=>cnd (decide (n9≥0)) (ldi b3 0 w fun n10=>cnd (decide (n10≤1099511627776)) (ldi b3 1 w fun n11=>cnd (decide (n11≥0)) (ldi b3 1 w fun n12=>J8 (((decide (n12≤1099511627776)):Bool)) w) (J8 false w)) (J8 false w)) (J8 false w)) fun (s13:zzjG.S) w=>zzlT Q s13 w
def zzmy:Nat→Option LSp:=fun | 3=>some zzjG | _=>none
theorem zzmH {a0_0 a0_1 w Q} (h:zziR a0_0 a0_1 w Q):CV P F.zziR [.agg [zI a0_0,zI a0_1].toArray] w Q:=CV_of (ann:=zzmy) mixed Tryz.func121 (Eq.mp (by kernel_rfl) h)
def zzfN:LSp:=spB 28
def zzlm (Q:Value→World→Prop) (b6:Bool) (w:World):Prop:=cnd b6 (Q (zI 1) w) (Q (zI 0) w)
def zzcT (a0_0 a0_1:Int) (w:World) (Q:Value→World→Prop):Prop:=alc [zI a0_0,zI a0_1] T.t161 w fun b3 w=>JoinT (fun (J8:zzfN.S→World→Prop)=>ldi b3 1 w fun n9=>cnd (decide (n9 < 1)) (J8 true w) (ldi b3 0 w fun n10=>ldi b3 1 w fun n11=>cnd (decide (n10 < n11)) (J8 true w) (ldi b3 0 w fun n12=>ldi b3 1 w fun n13=>(nz n13 <| cnd ((Int.tmod n12 n13) != 0) (J8 true w) (ldi b3 0 w fun n14=>ldi b3 1 w fun n15=>(nz n15 <| J8 (((decide ((IntKind.i64.wrap (Int.tdiv n14 n15)) > 1024)):Bool)) w)))))) fun (s16:zzfN.S) w=>zzlm Q s16 w
def zzkM:Nat→Option LSp:=fun | 6=>some zzfN | _=>none
theorem zzln {a0_0 a0_1 w Q} (h:zzcT a0_0 a0_1 w Q):CV P F.zzcT [.agg [zI a0_0,zI a0_1].toArray] w Q:=CV_of (ann:=zzkM) mixed Tryz.func122 (Eq.mp (by kernel_rfl) h)
def zzbN:LSp:=spI .i64 8
def zzds (a0:Value) (f1:Addr) (Q:Value→World→Prop) (p4:Option Addr) (l5:Nat) (n8:Int) (w:World) (A10:zzbN.S→World→Prop):Prop:=cnd (decide (n8 < ((l5:Nat):Int))) (ix n8 l5 fun j11=>nn p4 fun a12=>ldI .i64 (a12.add (j11 * 1)) w fun n13=>ldL f1 w fun p14 l15 c16=>ix n8 l15 fun j17=>nn p14 fun a18=>ldI .i64 (a18.add (j17 * 2)) w fun n19=>ldP ((a18.add (j17 * 2)).add 1) w fun p20=>callVal P a0 [zI n13,.agg [zI n19,.pointer p20].toArray] w fun v21 w=>∃ b23:Bool,v21 = .bool b23∧cnd (!b23) (Q (.tuple [].toArray) w) (A10 (((IntKind.i64.wrap (n8 + 1)):Int)) w)) (Q (.tuple [].toArray) w)
def zzai (a0:Value) (f0 f1:Addr) (w:World) (Q:Value→World→Prop):Prop:=ldL f0 w fun p4 l5 c6=>LoopT (fun (s24:zzbN.S) w A26=>zzds a0 f1 Q p4 l5 s24 w A26) ((0:Int)) w
def zzgv:Nat→Option LSp:=fun | 6=>some zzbN | _=>none
theorem zzgH {a0 f0 f1 w Q} (h:zzai a0 f0 f1 w Q):CV P F.zzai [a0,.pointer (some f0),.pointer (some f1)] w Q:=CV_of (ann:=zzgv) mixed Tryz.func123 (Eq.mp (by kernel_rfl) h)
def zzee (a0:Option Addr) (a0_n a0_c:Nat) (a1:Int) (w:World) (Q:Value→World→Prop):Prop:=CV P F.zzg3 [.slice a0 a0_n a0_c,zI (IntKind.i64.wrap (((a0_n:Nat):Int) - a1))] w fun v5 w=>v5 = .tuple [].toArray∧Q (.tuple [].toArray) w
def zzb6 (a0:Option Addr) (a0_n a0_c:Nat) (a1:Int) (w:World) (Q:Value→World→Prop):Prop:=CV P F.zzen [.slice a0 a0_n a0_c,zI (IntKind.i64.wrap (((a0_n:Nat):Int) - a1))] w fun v5 w=>v5 = .tuple [].toArray∧Q (.tuple [].toArray) w
def zzeD:LSp:=spL 4
def zzeE:LSp:=spL 4
def zzeh:LSp:=spL 4
def zzei:LSp:=spL 4
def zzej:LSp:=spL 4
def zzd9:LSp:=spL 4
def zzcm:LSp:=spL 4
def zzcn:LSp:=spL 4
def zza1 (Q:Value→World→Prop) (b21:Nat) (p85:Option Addr) (l86 c87:Nat) (w:World):Prop:=drw w fun w=>ldi b21 0 w fun n90=>ldi b21 1 w fun n91=>ldi b21 2 w fun n92=>ldi b21 3 w fun n93=>ldi b21 4 w fun n94=>ldi b21 5 w fun n95=>ldi b21 6 w fun n96=>ldi b21 7 w fun n97=>zldB b21 8 w fun b98=>eqA P .eql T.t26 (.agg [zI n90,zI n91,zI n92,zI n93,zI n94,zI n95,zI n96,zI n97,.bool b98].toArray) (.agg [zI 0,zI 0,zI 0,zI 0,zI 0,zI 0,zI 0,zI 0,.bool false].toArray) w fun b99=>Q (.tuple [.slice p85 l86 c87,.bool b99].toArray) w
def zzea:LSp:=spB 107
def zzeV (b10 b21:Nat) (p78:Option Addr) (l79 c80:Nat) (J100:zzcn.S→World→Prop) (b102:Bool) (w:World):Prop:=cnd b102 (zldB b10 8 w fun b104=>CV P F.zzdD [.bool b104] w fun v105 w=>∃ n107:Int,v105 = zI n107∧alc [zI 2,zI 63,zI 1,zI n107] T.t219 w fun b108 w=>runS P (Builtin.append_ #[T.t215,T.t215] T.t215 [.slice p78 l79 c80,.slice (some ⟨b108,0,none⟩) 1 1].toArray) w fun p110 l111 c112 w=>sto (.bool false) b21 8 w fun w=>J100 (((p110:Option Addr),(l111:Nat),(c112:Nat))) w) (J100 (((p78:Option Addr),(l79:Nat),(c80:Nat))) w)
def zzb7 (Q:Value→World→Prop) (b10 b21:Nat) (p78:Option Addr) (l79 c80:Nat) (w:World):Prop:=JoinT (fun (J100:zzcn.S→World→Prop)=>JoinT (fun (J115:zzea.S→World→Prop)=>ldi b10 0 w fun n116=>cnd (n116 == 8) (J115 true w) (ldi b10 0 w fun n117=>J115 (((n117 == 9):Bool)) w)) fun (s118:zzea.S) w=>zzeV b10 b21 p78 l79 c80 J100 s118 w) fun (s120:zzcn.S) w=>zza1 Q b21 s120.1 s120.2.1 s120.2.2 w
def zzdj:LSp:=spB 91
def zzdk (Q:Value→World→Prop) (b10 b21:Nat) (J122:zzcm.S→World→Prop) (p127:Option Addr) (l128 c129:Nat) (b133:Bool) (w:World):Prop:=cnd b133 (Q (.tuple [.slice none 0 0,.bool false].toArray) w) (ldi b10 7 w fun n135=>(nz 256 <| alc [zI 2,zI 8,zI 40,zI (IntKind.i64.wrap (Int.tdiv n135 256))] T.t219 w fun b136 w=>runS P (Builtin.append_ #[T.t215,T.t215] T.t215 [.slice p127 l128 c129,.slice (some ⟨b136,0,none⟩) 1 1].toArray) w fun p138 l139 c140 w=>sto (zI 0) b21 7 w fun w=>J122 (((p138:Option Addr),(l139:Nat),(c140:Nat))) w))
def zzb8 (Q:Value→World→Prop) (b10 b21:Nat) (p71:Option Addr) (l72 c73:Nat) (w:World):Prop:=JoinT (fun (J122:zzcm.S→World→Prop)=>ldi b10 0 w fun n123=>cnd (n123 == 8) (ldi b10 6 w fun n124=>alc [zI 1,zI 0,zI 5,zI n124] T.t219 w fun b125 w=>runS P (Builtin.append_ #[T.t215,T.t215] T.t215 [.slice p71 l72 c73,.slice (some ⟨b125,0,none⟩) 1 1].toArray) w fun p127 l128 c129 w=>sto (zI 0) b21 6 w fun w=>JoinT (fun (J143:zzdj.S→World→Prop)=>ldi b10 7 w fun n144=>cnd (decide (n144 < 0)) (J143 true w) (ldi b10 7 w fun n145=>(nz 256 <| J143 ((((Int.tmod n145 256) != 0):Bool)) w))) fun (s146:zzdj.S) w=>zzdk Q b10 b21 J122 p127 l128 c129 s146 w) (J122 (((p71:Option Addr),(l72:Nat),(c73:Nat))) w)) fun (s148:zzcm.S) w=>zzb7 Q b10 b21 s148.1 s148.2.1 s148.2.2 w
def zzb9 (Q:Value→World→Prop) (b10 b21:Nat) (p64:Option Addr) (l65 c66:Nat) (w:World):Prop:=JoinT (fun (J150:zzd9.S→World→Prop)=>ldi b10 0 w fun n151=>alc [zI 9,zI 14,zI 5] T.t24 w fun b152 w=>CV P F.zzaT [zI n151,.slice (some ⟨b152,0,none⟩) 3 3] w fun v154 w=>∃ b156:Bool,v154 = .bool b156∧cnd b156 (ldi b10 5 w fun n157=>alc [zI 2,zI 16,zI 16,zI n157] T.t219 w fun b158 w=>runS P (Builtin.append_ #[T.t215,T.t215] T.t215 [.slice p64 l65 c66,.slice (some ⟨b158,0,none⟩) 1 1].toArray) w fun p160 l161 c162 w=>sto (zI 0) b21 5 w fun w=>J150 (((p160:Option Addr),(l161:Nat),(c162:Nat))) w) (J150 (((p64:Option Addr),(l65:Nat),(c66:Nat))) w)) fun (s165:zzd9.S) w=>zzb8 Q b10 b21 s165.1 s165.2.1 s165.2.2 w
def zza2 (Q:Value→World→Prop) (b10 b21:Nat) (p57:Option Addr) (l58 c59:Nat) (w:World):Prop:=JoinT (fun (J167:zzej.S→World→Prop)=>ldi b10 0 w fun n168=>alc [zI 9,zI 10,zI 11,zI 1,zI 13] T.t24 w fun b169 w=>CV P F.zzaT [zI n168,.slice (some ⟨b169,0,none⟩) 5 5] w fun v171 w=>∃ b173:Bool,v171 = .bool b173∧cnd b173 (ldi b10 4 w fun n174=>alc [zI 2,zI 0,zI 16,zI n174] T.t219 w fun b175 w=>runS P (Builtin.append_ #[T.t215,T.t215] T.t215 [.slice p57 l58 c59,.slice (some ⟨b175,0,none⟩) 1 1].toArray) w fun p177 l178 c179 w=>sto (zI 0) b21 4 w fun w=>J167 (((p177:Option Addr),(l178:Nat),(c179:Nat))) w) (J167 (((p57:Option Addr),(l58:Nat),(c59:Nat))) w)) fun (s182:zzej.S) w=>zzb9 Q b10 b21 s182.1 s182.2.1 s182.2.2 w
def zzca (Q:Value→World→Prop) (b10 b21:Nat) (p50:Option Addr) (l51 c52:Nat) (w:World):Prop:=JoinT (fun (J184:zzei.S→World→Prop)=>ldi b10 0 w fun n185=>cnd (n185 == 14) (ldi b10 3 w fun n186=>alc [zI 3,zI 16,zI 16,zI n186] T.t219 w fun b187 w=>runS P (Builtin.append_ #[T.t215,T.t215] T.t215 [.slice p50 l51 c52,.slice (some ⟨b187,0,none⟩) 1 1].toArray) w fun p189 l190 c191 w=>sto (zI 0) b21 3 w fun w=>J184 (((p189:Option Addr),(l190:Nat),(c191:Nat))) w) (J184 (((p50:Option Addr),(l51:Nat),(c52:Nat))) w)) fun (s194:zzei.S) w=>zza2 Q b10 b21 s194.1 s194.2.1 s194.2.2 w
def zzcb (Q:Value→World→Prop) (b10 b21:Nat) (p43:Option Addr) (l44 c45:Nat) (w:World):Prop:=JoinT (fun (J196:zzeh.S→World→Prop)=>ldi b10 0 w fun n197=>cnd (n197 == 10) (ldi b10 3 w fun n198=>alc [zI 1,zI 32,zI 32,zI n198] T.t219 w fun b199 w=>runS P (Builtin.append_ #[T.t215,T.t215] T.t215 [.slice p43 l44 c45,.slice (some ⟨b199,0,none⟩) 1 1].toArray) w fun p201 l202 c203 w=>sto (zI 0) b21 3 w fun w=>J196 (((p201:Option Addr),(l202:Nat),(c203:Nat))) w) (J196 (((p43:Option Addr),(l44:Nat),(c45:Nat))) w)) fun (s206:zzeh.S) w=>zzca Q b10 b21 s206.1 s206.2.1 s206.2.2 w
def zzcc (Q:Value→World→Prop) (b10 b21:Nat) (p36:Option Addr) (l37 c38:Nat) (w:World):Prop:=JoinT (fun (J208:zzeE.S→World→Prop)=>ldi b10 0 w fun n209=>alc [zI 10,zI 11,zI 1,zI 3,zI 4,zI 12,zI 15] T.t24 w fun b210 w=>CV P F.zzaT [zI n209,.slice (some ⟨b210,0,none⟩) 7 7] w fun v212 w=>∃ b214:Bool,v212 = .bool b214∧cnd b214 (ldi b10 2 w fun n215=>alc [zI 1,zI 0,zI 32,zI n215] T.t219 w fun b216 w=>runS P (Builtin.append_ #[T.t215,T.t215] T.t215 [.slice p36 l37 c38,.slice (some ⟨b216,0,none⟩) 1 1].toArray) w fun p218 l219 c220 w=>sto (zI 0) b21 2 w fun w=>J208 (((p218:Option Addr),(l219:Nat),(c220:Nat))) w) (J208 (((p36:Option Addr),(l37:Nat),(c38:Nat))) w)) fun (s223:zzeE.S) w=>zzcb Q b10 b21 s223.1 s223.2.1 s223.2.2 w
def zzbD (a0_0 a0_1:Int) (a0_2 a0_3:Int) (a0_4 a0_5:Int) (a0_6 a0_7:Int) (a0_8:Bool) (w:World) (Q:Value→World→Prop):Prop:=alc [zI a0_0,zI a0_1,zI a0_2,zI a0_3,zI a0_4,zI a0_5,zI a0_6,zI a0_7,.bool a0_8] T.t26 w fun b10 w=>ldi b10 0 w fun n12=>ldi b10 1 w fun n13=>ldi b10 2 w fun n14=>ldi b10 3 w fun n15=>ldi b10 4 w fun n16=>ldi b10 5 w fun n17=>ldi b10 6 w fun n18=>ldi b10 7 w fun n19=>zldB b10 8 w fun b20=>alc [zI 0,zI 0,zI 0,zI 0,zI 0,zI 0,zI 0,zI 0,.bool false] T.t26 w fun b21 w=>sto (zI n12) b21 0 w fun w=>sto (zI n13) b21 1 w fun w=>sto (zI n14) b21 2 w fun w=>sto (zI n15) b21 3 w fun w=>sto (zI n16) b21 4 w fun w=>sto (zI n17) b21 5 w fun w=>sto (zI n18) b21 6 w fun w=>sto (zI n19) b21 7 w fun w=>sto (.bool b20) b21 8 w fun w=>sto (zI 0) b21 0 w fun w=>JoinT (fun (J225:zzeD.S→World→Prop)=>ldi b10 0 w fun n226=>alc [zI 9,zI 13,zI 14,zI 5] T.t24 w fun b227 w=>CV P F.zzaT [zI n226,.slice (some ⟨b227,0,none⟩) 4 4] w fun v229 w=>∃ b231:Bool,v229 = .bool b231∧cnd (!b231) (ldi b10 1 w fun n232=>alc [zI 0,zI 32,zI 32,zI n232] T.t219 w fun b233 w=>runS P (Builtin.append_ #[T.t215,T.t215] T.t215 [.slice none 0 0,.slice (some ⟨b233,0,none⟩) 1 1].toArray) w fun p235 l236 c237 w=>sto (zI 0) b21 1 w fun w=>J225 (((p235:Option Addr),(l236:Nat),(c237:Nat))) w) (J225 (((none:Option Addr),(0:Nat),(0:Nat))) w)) fun (s240:zzeD.S) w=>zzcc Q b10 b21 s240.1 s240.2.1 s240.2.2 w
def zzjO:Nat→Option LSp:=fun | 31=>some zzeD | 63=>some zzeE | 127=>some zzeh | 255=>some zzei | 511=>some zzej | 1023=>some zzd9 | 2047=>some zzcm | 4095=>some zzcn | 16382=>some (ordSpec [0,1,2,3,4,5]) | 8190=>some zzea | 131030=>some zzdj | _=>none
theorem zzj8 {a0_0 a0_1 a0_2 a0_3 a0_4 a0_5 a0_6 a0_7 a0_8 w Q} (h:zzbD a0_0 a0_1 a0_2 a0_3 a0_4 a0_5 a0_6 a0_7 a0_8 w Q):CV P F.zzbD [.agg [zI a0_0,zI a0_1,zI a0_2,zI a0_3,zI a0_4,zI a0_5,zI a0_6,zI a0_7,.bool a0_8].toArray] w Q:=CV_of (ann:=zzjO) mixed Tryz.func128 (Eq.mp (by kernel_rfl) h)
def zzbQ (a0:Int) (w:World) (Q:Value→World→Prop):Prop:=alc [zI 1,zI 3,zI 4,zI 5,zI 8,zI 9,zI 10,zI 11,zI 12,zI 13,zI 14,zI 15] T.t24 w fun b2 w=>CV P F.zzaT [zI a0,.slice (some ⟨b2,0,none⟩) 12 12] w fun v4 w=>∃ b6:Bool,v4 = .bool b6∧Q (.bool b6) w
def zzj9:Nat→Option LSp:=fun _=>none
theorem zzkN {a0 w Q} (h:zzbQ a0 w Q):CV P F.zzbQ [zI a0] w Q:=CV_of (ann:=zzj9) mixed Tryz.func129 (Eq.mp (by kernel_rfl) h)
def zzbV:LSp where
 S:=(Option Addr×Nat×Nat)×Int
 emb:=fun s=>[(3,.slice s.1.1 s.1.2.1 s.1.2.2),(4,.int .i64 s.2)]
 ext:=fun t=>match getL t 3,getL t 4 with
  | some (.slice y4 y5 y6),some (.int .i64 y7)=>some ((y4,y5,y6),y7)
  | _,_=>none
 slots:=[3,4]
 fits:=fun _=>rfl
 ok:=by
  intro t s h x hx
  (try dsimp only at h hx)
  split at h
  · cases h
    simp only [List.mem_cons,List.not_mem_nil,or_false] at hx
    rcases hx with rfl | rfl <;> assumption
  · cases h
def zzcd:LSp where
 S:=(Option Addr×Nat×Nat)×Bool×Int
 emb:=fun s=>[(5,.slice s.1.1 s.1.2.1 s.1.2.2),(6,.bool s.2.1),(7,.int .i64 s.2.2)]
 ext:=fun t=>match getL t 5,getL t 6,getL t 7 with
  | some (.slice y14 y15 y16),some (.bool y17),some (.int .i64 y18)=>some ((y14,y15,y16),y17,y18)
  | _,_,_=>none
 slots:=[5,6,7]
 fits:=fun _=>rfl
 ok:=by
  intro t s h x hx
  (try dsimp only at h hx)
  split at h
  · cases h
    simp only [List.mem_cons,List.not_mem_nil,or_false] at hx
    rcases hx with rfl | rfl | rfl <;> assumption
  · cases h
def zzbY:LSp where
 S:=(Option Addr×Nat×Nat)×Bool
 emb:=fun s=>[(5,.slice s.1.1 s.1.2.1 s.1.2.2),(6,.bool s.2)]
 ext:=fun t=>match getL t 5,getL t 6 with
  | some (.slice y26 y27 y28),some (.bool y29)=>some ((y26,y27,y28),y29)
  | _,_=>none
 slots:=[5,6]
 fits:=fun _=>rfl
 ok:=by
  intro t s h x hx
  (try dsimp only at h hx)
  split at h
  · cases h
    simp only [List.mem_cons,List.not_mem_nil,or_false] at hx
    rcases hx with rfl | rfl <;> assumption
  · cases h
def zzdl (p8:Option Addr) (l9:Nat) (n23:Int) (A25:zzcd.S→World→Prop) (p30:Option Addr) (l31 c32:Nat) (b33:Bool) (w:World):Prop:=ix n23 l9 fun j35=>nn p8 fun a36=>ldI .i64 (a36.add (j35 * 1)) w fun n37=>alc [zI n37] T.t3 w fun b38 w=>runS P (Builtin.append_ #[T.t22,T.t22] T.t22 [.slice p30 l31 c32,.slice (some ⟨b38,0,none⟩) 1 1].toArray) w fun p40 l41 c42 w=>A25 (((p40:Option Addr),(l41:Nat),(c42:Nat)),(b33:Bool),((IntKind.i64.wrap (n23 + 1)):Int)) w
def zzdm:LSp:=spB 32
def zzeW (a0:Option Addr) (a0_n:Nat) (n11:Int) (p19:Option Addr) (l20 c21:Nat) (b22:Bool) (J44:zzbY.S→World→Prop) (b46:Bool) (w:World):Prop:=cnd b46 (ix n11 a0_n fun j48=>nn a0 fun a49=>ldI .i64 (a49.add (j48 * 1)) w fun n50=>alc [zI n50] T.t3 w fun b51 w=>runS P (Builtin.append_ #[T.t22,T.t22] T.t22 [.slice p19 l20 c21,.slice (some ⟨b51,0,none⟩) 1 1].toArray) w fun p53 l54 c55 w=>J44 (((p53:Option Addr),(l54:Nat),(c55:Nat)),(true:Bool)) w) (J44 (((p19:Option Addr),(l20:Nat),(c21:Nat)),(b22:Bool)) w)
def zzeb:LSp:=spL 5
def zzeX (n11:Int) (A13:zzbV.S→World→Prop) (p72:Option Addr) (l73 c74:Nat) (w:World):Prop:=A13 (((p72:Option Addr),(l73:Nat),(c74:Nat)),((IntKind.i64.wrap (n11 + 1)):Int)) w
def zzho (a0:Option Addr) (a0_n:Nat) (p8:Option Addr) (l9:Nat) (n11:Int) (A13:zzbV.S→World→Prop) (p19:Option Addr) (l20 c21:Nat) (b22:Bool) (n23:Int) (w:World) (A25:zzcd.S→World→Prop):Prop:=cnd (decide (n23 < ((l9:Nat):Int))) (JoinT (fun (J44:zzbY.S→World→Prop)=>JoinT (fun (J57:zzdm.S→World→Prop)=>drw w fun w=>cnd (!b22) (ix n11 a0_n fun j59=>nn a0 fun a60=>ldI .i64 (a60.add (j59 * 1)) w fun n61=>ix n23 l9 fun j62=>nn p8 fun a63=>ldI .i64 (a63.add (j62 * 1)) w fun n64=>J57 (((decide (n61 < n64)):Bool)) w) (J57 false w)) fun (s65:zzdm.S) w=>zzeW a0 a0_n n11 p19 l20 c21 b22 J44 s65 w) fun (s67:zzbY.S) w=>zzdl p8 l9 n23 A25 s67.1.1 s67.1.2.1 s67.1.2.2 s67.2 w) (JoinT (fun (J76:zzeb.S→World→Prop)=>cnd (!b22) (ix n11 a0_n fun j77=>nn a0 fun a78=>ldI .i64 (a78.add (j77 * 1)) w fun n79=>alc [zI n79] T.t3 w fun b80 w=>runS P (Builtin.append_ #[T.t22,T.t22] T.t22 [.slice p19 l20 c21,.slice (some ⟨b80,0,none⟩) 1 1].toArray) w fun p82 l83 c84 w=>J76 (((p82:Option Addr),(l83:Nat),(c84:Nat))) w) (J76 (((p19:Option Addr),(l20:Nat),(c21:Nat))) w)) fun (s86:zzeb.S) w=>zzeX n11 A13 s86.1 s86.2.1 s86.2.2 w)
def zzhp (a0:Option Addr) (a0_n:Nat) (Q:Value→World→Prop) (p8:Option Addr) (l9 c10:Nat) (n11:Int) (w:World) (A13:zzbV.S→World→Prop):Prop:=cnd (decide (n11 < ((a0_n:Nat):Int))) (LoopT (fun (s88:zzcd.S) w A90=>zzho a0 a0_n p8 l9 n11 A13 s88.1.1 s88.1.2.1 s88.1.2.2 s88.2.1 s88.2.2 w A90) (((none:Option Addr),(0:Nat),(0:Nat)),(false:Bool),(0:Int)) w) (Q (.slice p8 l9 c10) w)
def zzcg (a0:Option Addr) (a0_n a0_c:Nat) (w:World) (Q:Value→World→Prop):Prop:=LoopT (fun (s91:zzbV.S) w A93=>zzhp a0 a0_n Q s91.1.1 s91.1.2.1 s91.1.2.2 s91.2 w A93) (((none:Option Addr),(0:Nat),(0:Nat)),(0:Int)) w
def zzjP:Nat→Option LSp:=fun | 58=>some zzbV | 29850=>some zzcd | 477604=>some zzbY | 955208=>some zzdm | 1910416=>some (ordSpec [0,1,2,3,4,5,6,7,8,9,10,11,12]) | 7463=>some zzeb | _=>none
theorem zzka {a0 a0_n a0_c w Q} (h:zzcg a0 a0_n a0_c w Q):CV P F.zzcg [.slice a0 a0_n a0_c] w Q:=CV_of (ann:=zzjP) mixed Tryz.func130 (Eq.mp (by kernel_rfl) h)
def zzce:LSp:=spI .i64 7
def zzdn:LSp:=spB 38
def zzec (Q:Value→World→Prop) (n5:Int) (A7:zzce.S→World→Prop) (b13:Bool) (w:World):Prop:=cnd b13 (Q (zI n5) w) (A7 (((IntKind.i64.wrap (n5 + 1)):Int)) w)
def zzf8 (a0:Option Addr) (a1 a2:Int) (Q:Value→World→Prop) (n5:Int) (w:World) (A7:zzce.S→World→Prop):Prop:=nn a0 fun a8=>ldL (a8.add 10) w fun p9 l10 c11=>cnd (decide (n5 < ((l10:Nat):Int))) (JoinT (fun (J15:zzdn.S→World→Prop)=>nn a0 fun a16=>ldL (a16.add 10) w fun p17 l18 c19=>ix n5 l18 fun j20=>nn p17 fun a21=>ldI .i64 (a21.add (j20 * 4)) w fun n22=>cnd (n22 == a1) (nn a0 fun a23=>ldL (a23.add 10) w fun p24 l25 c26=>ix n5 l25 fun j27=>nn p24 fun a28=>ldI .i64 ((a28.add (j27 * 4)).add 1) w fun n29=>J15 (((n29 == a2):Bool)) w) (J15 false w)) fun (s30:zzdn.S) w=>zzec Q n5 A7 s30 w) (Q (zI (-1)) w)
def zzap (a0:Option Addr) (a1 a2:Int) (w:World) (Q:Value→World→Prop):Prop:=LoopT (fun (s32:zzce.S) w A34=>zzf8 a0 a1 a2 Q s32 w A34) ((0:Int)) w
def zzji:Nat→Option LSp:=fun | 26=>some zzce | 420=>some zzdn | _=>none
theorem zzjy {a0 a1 a2 w Q} (h:zzap a0 a1 a2 w Q):CV P F.zzap [.pointer a0,zI a1,zI a2] w Q:=CV_of (ann:=zzji) mixed Tryz.func131 (Eq.mp (by kernel_rfl) h)
def zzas (a0:Option Addr) (a1 a2:Int) (w:World) (Q:Value→World→Prop):Prop:=alc [zI 0,zI 0,zI 0,zI 0,zI 0,zI 0] T.t73 w fun b4 w=>CV P F.zzaJ [.pointer a0,zI a1,zI a2] w fun v6 w=>∃ n8 n9:Int,∃ b10:Bool,∃ n11 n12:Int,v6 = .tuple [.agg [zI n8,zI n9,.bool b10].toArray,zI n11,zI n12].toArray∧alc [zI 0,zI 0,.bool false] T.t44 w fun b13 w=>sto (zI n8) b13 0 w fun w=>sto (zI n9) b13 1 w fun w=>sto (.bool b10) b13 2 w fun w=>cnd (n12 != 0) (sto (zI 2) b4 0 w fun w=>sto (zI a1) b4 1 w fun w=>sto (zI a2) b4 2 w fun w=>sto (zI 0) b4 3 w fun w=>sto (zI 0) b4 4 w fun w=>sto (zI 0) b4 5 w fun w=>ldi b4 0 w fun n24=>ldi b4 1 w fun n25=>ldi b4 2 w fun n26=>ldi b4 3 w fun n27=>ldi b4 4 w fun n28=>ldi b4 5 w fun n29=>Q (.agg [zI n24,zI n25,zI n26,zI n27,zI n28,zI n29].toArray) w) (ldi b13 0 w fun n30=>sto (zI 1) b4 0 w fun w=>sto (zI a1) b4 1 w fun w=>sto (zI a2) b4 2 w fun w=>sto (zI n30) b4 3 w fun w=>sto (zI 0) b4 4 w fun w=>sto (zI n11) b4 5 w fun w=>ldi b4 0 w fun n37=>ldi b4 1 w fun n38=>ldi b4 2 w fun n39=>ldi b4 3 w fun n40=>ldi b4 4 w fun n41=>ldi b4 5 w fun n42=>Q (.agg [zI n37,zI n38,zI n39,zI n40,zI n41,zI n42].toArray) w)
def zzhY:Nat→Option LSp:=fun _=>none
theorem zzii {a0 a1 a2 w Q} (h:zzas a0 a1 a2 w Q):CV P F.zzas [.pointer a0,zI a1,zI a2] w Q:=CV_of (ann:=zzhY) mixed Tryz.func132 (Eq.mp (by kernel_rfl) h)
def zzek:LSp:=spI .i64 5
def zzg4 (a0:Option Addr) (a1:Int) (Q:Value→World→Prop) (n4:Int) (w:World) (A6:zzek.S→World→Prop):Prop:=nn a0 fun a7=>ldL (a7.add 8) w fun p8 l9 c10=>cnd (decide (n4 < ((l9:Nat):Int))) (nn a0 fun a11=>ldL (a11.add 8) w fun p12 l13 c14=>ix n4 l13 fun j15=>nn p12 fun a16=>ldI .i64 (a16.add (j15 * 1)) w fun n17=>cnd (n17 == a1) (Q (zI n4) w) (A6 (((IntKind.i64.wrap (n4 + 1)):Int)) w)) (Q (zI (-1)) w)
def zzaW (a0:Option Addr) (a1:Int) (w:World) (Q:Value→World→Prop):Prop:=LoopT (fun (s18:zzek.S) w A20=>zzg4 a0 a1 Q s18 w A20) ((0:Int)) w
def zzjH:Nat→Option LSp:=fun | 26=>some zzek | _=>none
theorem zzjQ {a0 a1 w Q} (h:zzaW a0 a1 w Q):CV P F.zzaW [.pointer a0,zI a1] w Q:=CV_of (ann:=zzjH) mixed Tryz.func133 (Eq.mp (by kernel_rfl) h)
def zzc8:LSp:=spL 7
def zzbC:LSp where
 S:=(Option Addr×Nat×Nat)×Int
 emb:=fun s=>[(12,.slice s.1.1 s.1.2.1 s.1.2.2),(13,.int .i64 s.2)]
 ext:=fun t=>match getL t 12,getL t 13 with
  | some (.slice y26 y27 y28),some (.int .i64 y29)=>some ((y26,y27,y28),y29)
  | _,_=>none
 slots:=[12,13]
 fits:=fun _=>rfl
 ok:=by
  intro t s h x hx
  (try dsimp only at h hx)
  split at h
  · cases h
    simp only [List.mem_cons,List.not_mem_nil,or_false] at hx
    rcases hx with rfl | rfl <;> assumption
  · cases h
def zzcK:LSp:=spL 12
def zzfm (n33:Int) (A35:zzbC.S→World→Prop) (p43:Option Addr) (l44 c45:Nat) (w:World):Prop:=A35 (((p43:Option Addr),(l44:Nat),(c45:Nat)),((IntKind.i64.wrap (n33 + 1)):Int)) w
def zzfn (a0:Option Addr) (a1 a2:Int) (Q:Value→World→Prop) (p19:Option Addr) (l20 c21:Nat) (n25:Int) (p30:Option Addr) (l31 c32:Nat) (n33:Int) (w:World) (A35:zzbC.S→World→Prop):Prop:=nn a0 fun a36=>ldL (a36.add 10) w fun p37 l38 c39=>cnd (decide (n33 < ((l38:Nat):Int))) (JoinT (fun (J47:zzcK.S→World→Prop)=>cnd (n33 != n25) (nn a0 fun a48=>ldL (a48.add 10) w fun p49 l50 c51=>ix n33 l50 fun j52=>nn p49 fun a53=>ldI .i64 (a53.add (j52 * 4)) w fun n54=>ldI .i64 ((a53.add (j52 * 4)).add 1) w fun n55=>ldI .i64 ((a53.add (j52 * 4)).add 2) w fun n56=>ldI .i64 ((a53.add (j52 * 4)).add 3) w fun n57=>alc [zI n54,zI n55,zI n56,zI n57] T.t199 w fun b58 w=>runS P (Builtin.append_ #[T.t131,T.t131] T.t131 [.slice p30 l31 c32,.slice (some ⟨b58,0,none⟩) 1 1].toArray) w fun p60 l61 c62 w=>J47 (((p60:Option Addr),(l61:Nat),(c62:Nat))) w) (J47 (((p30:Option Addr),(l31:Nat),(c32:Nat))) w)) fun (s64:zzcK.S) w=>zzfm n33 A35 s64.1 s64.2.1 s64.2.2 w) (nn a0 fun a66=>st1 (.slice p30 l31 c32) (a66.add 10) w fun w=>CV P F.zzas [.pointer a0,zI a1,zI a2] w fun v68 w=>∃ n70 n71:Int,∃ n72 n73:Int,∃ n74 n75:Int,v68 = .agg [zI n70,zI n71,zI n72,zI n73,zI n74,zI n75].toArray∧alc [zI n70,zI n71,zI n72,zI n73,zI n74,zI n75] T.t73 w fun b76 w=>runS P (Builtin.append_ #[T.t74,T.t74] T.t74 [.slice p19 l20 c21,.slice (some ⟨b76,0,none⟩) 1 1].toArray) w fun p78 l79 c80 w=>Q (.slice p78 l79 c80) w)
def zzdo (a0:Option Addr) (a1 a2:Int) (Q:Value→World→Prop) (p19:Option Addr) (l20 c21:Nat) (w:World):Prop:=CV P F.zzap [.pointer a0,zI a1,zI a2] w fun v23 w=>∃ n25:Int,v23 = zI n25∧LoopT (fun (s82:zzbC.S) w A84=>zzfn a0 a1 a2 Q p19 l20 c21 n25 s82.1.1 s82.1.2.1 s82.1.2.2 s82.2 w A84) (((none:Option Addr),(0:Nat),(0:Nat)),(0:Int)) w
def zzaE (a0:Option Addr) (a1 a2:Int) (w:World) (Q:Value→World→Prop):Prop:=CV P F.zzaJ [.pointer a0,zI a1,zI a2] w fun v4 w=>∃ n6 n7:Int,∃ b8:Bool,∃ n9 n10:Int,v4 = .tuple [.agg [zI n6,zI n7,.bool b8].toArray,zI n9,zI n10].toArray∧alc [zI 0,zI 0,.bool false] T.t44 w fun b11 w=>sto (zI n6) b11 0 w fun w=>sto (zI n7) b11 1 w fun w=>sto (.bool b8) b11 2 w fun w=>JoinT (fun (J85:zzc8.S→World→Prop)=>cnd (n10 == 0) (ldi b11 0 w fun n86=>alc [zI 4,zI 0,zI 0,zI n86,zI n9,zI 0] T.t73 w fun b87 w=>runS P (Builtin.append_ #[T.t74,T.t74] T.t74 [.slice none 0 0,.slice (some ⟨b87,0,none⟩) 1 1].toArray) w fun p89 l90 c91 w=>J85 (((p89:Option Addr),(l90:Nat),(c91:Nat))) w) (J85 (((none:Option Addr),(0:Nat),(0:Nat))) w)) fun (s93:zzc8.S) w=>zzdo a0 a1 a2 Q s93.1 s93.2.1 s93.2.2 w
def zzij:Nat→Option LSp:=fun | 15=>some zzc8 | 1018=>some zzbC | 8146=>some zzcK | _=>none
theorem zziM {a0 a1 a2 w Q} (h:zzaE a0 a1 a2 w Q):CV P F.zzaE [.pointer a0,zI a1,zI a2] w Q:=CV_of (ann:=zzij) mixed Tryz.func134 (Eq.mp (by kernel_rfl) h)
def zzba (a0:Option Addr) (a1_0 a1_1:Int) (a1_2 a1_3:Int) (w:World) (Q:Value→World→Prop):Prop:=alc [zI a1_0,zI a1_1,zI a1_2,zI a1_3] T.t199 w fun b6 w=>ldi b6 0 w fun n8=>ldi b6 1 w fun n9=>CV P F.zzap [.pointer a0,zI n8,zI n9] w fun v10 w=>∃ n12:Int,v10 = zI n12∧cnd (decide (n12≥0)) (drw w fun w=>nn a0 fun a14=>ldL (a14.add 10) w fun p15 l16 c17=>ldi b6 0 w fun n18=>ldi b6 1 w fun n19=>ldi b6 2 w fun n20=>ldi b6 3 w fun n21=>ix n12 l16 fun j22=>nn p15 fun a23=>st1 (zI n18) (a23.add (j22 * 4)) w fun w=>st1 (zI n19) ((a23.add (j22 * 4)).add 1) w fun w=>st1 (zI n20) ((a23.add (j22 * 4)).add 2) w fun w=>st1 (zI n21) ((a23.add (j22 * 4)).add 3) w fun w=>Q (.tuple [].toArray) w) (drw w fun w=>nn a0 fun a29=>ldL (a29.add 10) w fun p30 l31 c32=>ldi b6 0 w fun n33=>ldi b6 1 w fun n34=>ldi b6 2 w fun n35=>ldi b6 3 w fun n36=>alc [zI n33,zI n34,zI n35,zI n36] T.t199 w fun b37 w=>(ldL (a29.add 10) w fun p39 l40 c41=>((.slice p39 l40 c41:Value) = .slice p30 l31 c32))∧runS P (Builtin.append_ #[T.t131,T.t131] T.t131 [.slice p30 l31 c32,.slice (some ⟨b37,0,none⟩) 1 1].toArray) w fun p42 l43 c44 w=>nn a0 fun a46=>st1 (.slice p42 l43 c44) (a46.add 10) w fun w=>Q (.tuple [].toArray) w)
def zzjz:Nat→Option LSp:=fun | 116=>some (ordSpec [0,1,2,3,4,5,6,7]) | 15=>some (ordSpec [0,1,2,3,4,5,6,7,8,9,10]) | _=>none
theorem zzjI {a0 a1_0 a1_1 a1_2 a1_3 w Q} (h:zzba a0 a1_0 a1_1 a1_2 a1_3 w Q):CV P F.zzba [.pointer a0,.agg [zI a1_0,zI a1_1,zI a1_2,zI a1_3].toArray] w Q:=CV_of (ann:=zzjz) mixed Tryz.func135 (Eq.mp (by kernel_rfl) h)
def zzaK (a0_0 a0_1:Int) (a0_2 a0_3 a1:Int) (w:World) (Q:Value→World→Prop):Prop:=alc [zI a0_0,zI a0_1,zI a0_2,zI a0_3] T.t120 w fun b6 w=>ldi b6 1 w fun n8=>CV P F.zzbp [zI n8,zI 32,zI a1] w fun v9 w=>∃ n11:Int,v9 = zI n11∧Q (.bool (decide (n11≥0))) w
def zzjj:Nat→Option LSp:=fun _=>none
theorem zzjA {a0_0 a0_1 a0_2 a0_3 a1 w Q} (h:zzaK a0_0 a0_1 a0_2 a0_3 a1 w Q):CV P F.zzaK [.agg [zI a0_0,zI a0_1,zI a0_2,zI a0_3].toArray,zI a1] w Q:=CV_of (ann:=zzjj) mixed Tryz.func136 (Eq.mp (by kernel_rfl) h)
def zzdp:LSp:=spII .u64 4 .i64 12
def zzf9 (a0:Option Addr) (a2 a3:Int) (Q:Value→World→Prop) (b7:Nat) (n20 n21:Int) (w:World) (A23:zzdp.S→World→Prop):Prop:=cnd (decide (n21 < a3)) (drw w fun w=>nn a0 fun a25=>ldL a25 w fun p26 l27 c28=>ldi b7 0 w fun n29=>(nz 256 <| ix (IntKind.i64.wrap ((IntKind.i64.wrap (n29 + a2)) + n21)) l27 fun j30=>nn p26 fun a31=>st1 (.int .u8 (IntKind.u8.wrap ((Int.tmod n20 256)))) (a31.add (j30 * 1)) w fun w=>(nz 256 <| A23 (((IntKind.u64.wrap (Int.tdiv n20 256)):Int),((IntKind.i64.wrap (n21 + 1)):Int)) w))) (Q (zI 0) w)
def zzbA (a0:Option Addr) (a1_0 a1_1:Int) (a2 a3 a4:Int) (w:World) (Q:Value→World→Prop):Prop:=alc [zI a1_0,zI a1_1] T.t33 w fun b7 w=>ldi b7 0 w fun n9=>ldi b7 1 w fun n10=>CV P F.zzav [.pointer a0,.agg [zI n9,zI n10].toArray] w fun v11 w=>∃ b13:Bool,v11 = .bool b13∧cnd (!b13) (Q (zI 42) w) (ldi b7 1 w fun n14=>CV P F.zzcE [zI n14,zI a2,zI a3] w fun v15 w=>∃ n17:Int,v15 = zI n17∧cnd (n17 != 0) (Q (zI n17) w) (LoopT (fun (s33:zzdp.S) w A35=>zzf9 a0 a2 a3 Q b7 s33.1 s33.2 w A35) ((a4:Int),(0:Int)) w))
def zzjk:Nat→Option LSp:=fun | 250=>some zzdp | 8008=>some (ordSpec [0,1,2,3,4,5,6,7,8,9,10,11,12,13,14]) | _=>none
theorem zzjB {a0 a1_0 a1_1 a2 a3 a4 w Q} (h:zzbA a0 a1_0 a1_1 a2 a3 a4 w Q):CV P F.zzbA [.pointer a0,.agg [zI a1_0,zI a1_1].toArray,zI a2,zI a3,.int .u64 a4] w Q:=CV_of (ann:=zzjk) mixed Tryz.func137 (Eq.mp (by kernel_rfl) h)
def zzfe:LSp:=spI .i64 9
def zzhZ (a0:Option Addr) (a2:Int) (Q:Value→World→Prop) (b5 b7 b9:Nat) (n12:Int) (w:World) (A14:zzfe.S→World→Prop):Prop:=cnd (decide (n12 < 4)) (ldi b5 0 w fun n15=>ldi b5 1 w fun n16=>CV P F.zzbK [.pointer a0,.agg [zI n15,zI n16].toArray,zI (IntKind.i64.wrap (a2 + (IntKind.i64.wrap (8 * n12)))),zI 8] w fun v17 w=>∃ n19 n20:Int,v17 = .tuple [.int .u64 n19,zI n20].toArray∧cnd (n20 != 0) (sto (zI 0) b7 0 w fun w=>sto (zI 0) b7 1 w fun w=>sto (zI 0) b7 2 w fun w=>sto (zI 0) b7 3 w fun w=>sto (zI 0) b7 4 w fun w=>sto (zI 0) b7 5 w fun w=>sto (zI 0) b7 6 w fun w=>sto (zI 0) b7 7 w fun w=>sto (.bool false) b7 8 w fun w=>ldi b7 0 w fun n30=>ldi b7 1 w fun n31=>ldi b7 2 w fun n32=>ldi b7 3 w fun n33=>ldi b7 4 w fun n34=>ldi b7 5 w fun n35=>ldi b7 6 w fun n36=>ldi b7 7 w fun n37=>zldB b7 8 w fun b38=>Q (.tuple [.agg [zI n30,zI n31,zI n32,zI n33,zI n34,zI n35,zI n36,zI n37,.bool b38].toArray,zI 42].toArray) w) (ix n12 4 fun j39=>st1 (.int .u64 n19) (Addr.add ⟨b9,0,none⟩ (j39 * 1)) w fun w=>A14 (((IntKind.i64.wrap (n12 + 1)):Int)) w)) (ldI .u64 ⟨b9,0,none⟩ w fun n41=>ldI .u64 ⟨b9,1,none⟩ w fun n42=>ldI .u64 ⟨b9,2,none⟩ w fun n43=>ldI .u64 ⟨b9,3,none⟩ w fun n44=>CV P F.zzch [.agg [.int .u64 n41,.int .u64 n42,.int .u64 n43,.int .u64 n44].toArray] w fun v45 w=>∃ n47 n48:Int,∃ n49 n50:Int,∃ n51 n52:Int,∃ n53 n54:Int,∃ b55:Bool,∃ b56:Bool,v45 = .tuple [.agg [zI n47,zI n48,zI n49,zI n50,zI n51,zI n52,zI n53,zI n54,.bool b55].toArray,.bool b56].toArray∧alc [zI 0,zI 0,zI 0,zI 0,zI 0,zI 0,zI 0,zI 0,.bool false] T.t26 w fun b57 w=>sto (zI n47) b57 0 w fun w=>sto (zI n48) b57 1 w fun w=>sto (zI n49) b57 2 w fun w=>sto (zI n50) b57 3 w fun w=>sto (zI n51) b57 4 w fun w=>sto (zI n52) b57 5 w fun w=>sto (zI n53) b57 6 w fun w=>sto (zI n54) b57 7 w fun w=>sto (.bool b55) b57 8 w fun w=>cnd (!b56) (sto (zI 0) b7 0 w fun w=>sto (zI 0) b7 1 w fun w=>sto (zI 0) b7 2 w fun w=>sto (zI 0) b7 3 w fun w=>sto (zI 0) b7 4 w fun w=>sto (zI 0) b7 5 w fun w=>sto (zI 0) b7 6 w fun w=>sto (zI 0) b7 7 w fun w=>sto (.bool false) b7 8 w fun w=>ldi b7 0 w fun n77=>ldi b7 1 w fun n78=>ldi b7 2 w fun n79=>ldi b7 3 w fun n80=>ldi b7 4 w fun n81=>ldi b7 5 w fun n82=>ldi b7 6 w fun n83=>ldi b7 7 w fun n84=>zldB b7 8 w fun b85=>Q (.tuple [.agg [zI n77,zI n78,zI n79,zI n80,zI n81,zI n82,zI n83,zI n84,.bool b85].toArray,zI 160].toArray) w) (ldi b57 0 w fun n86=>ldi b57 1 w fun n87=>ldi b57 2 w fun n88=>ldi b57 3 w fun n89=>ldi b57 4 w fun n90=>ldi b57 5 w fun n91=>ldi b57 6 w fun n92=>ldi b57 7 w fun n93=>zldB b57 8 w fun b94=>sto (zI n86) b7 0 w fun w=>sto (zI n87) b7 1 w fun w=>sto (zI n88) b7 2 w fun w=>sto (zI n89) b7 3 w fun w=>sto (zI n90) b7 4 w fun w=>sto (zI n91) b7 5 w fun w=>sto (zI n92) b7 6 w fun w=>sto (zI n93) b7 7 w fun w=>sto (.bool b94) b7 8 w fun w=>ldi b7 0 w fun n104=>ldi b7 1 w fun n105=>ldi b7 2 w fun n106=>ldi b7 3 w fun n107=>ldi b7 4 w fun n108=>ldi b7 5 w fun n109=>ldi b7 6 w fun n110=>ldi b7 7 w fun n111=>zldB b7 8 w fun b112=>Q (.tuple [.agg [zI n104,zI n105,zI n106,zI n107,zI n108,zI n109,zI n110,zI n111,.bool b112].toArray,zI 0].toArray) w))
def zzcU (a0:Option Addr) (a1_0 a1_1 a2:Int) (w:World) (Q:Value→World→Prop):Prop:=alc [zI a1_0,zI a1_1] T.t33 w fun b5 w=>alc [zI 0,zI 0,zI 0,zI 0,zI 0,zI 0,zI 0,zI 0,.bool false] T.t26 w fun b7 w=>alc [.int .u64 0,.int .u64 0,.int .u64 0,.int .u64 0] T.t90 w fun b9 w=>LoopT (fun (s113:zzfe.S) w A115=>zzhZ a0 a2 Q b5 b7 b9 s113 w A115) ((0:Int)) w
def zzkO:Nat→Option LSp:=fun | 58=>some zzfe | _=>none
theorem zzlo {a0 a1_0 a1_1 a2 w Q} (h:zzcU a0 a1_0 a1_1 a2 w Q):CV P F.zzcU [.pointer a0,.agg [zI a1_0,zI a1_1].toArray,zI a2] w Q:=CV_of (ann:=zzkO) mixed Tryz.func138 (Eq.mp (by kernel_rfl) h)
def zzfO:LSp:=spB 19
def zzff:LSp:=spB 34
def zzdq:LSp:=spI .i64 10
def zzcM:LSp:=spI .i64 12
def zzdT:LSp:=spB 63
def zzfP (a2 a3:Int) (Q:Value→World→Prop) (b7 b46:Nat) (n56:Int) (A58:zzcM.S→World→Prop) (b60:Bool) (w:World):Prop:=cnd b60 (A58 (((IntKind.i64.wrap (n56 + 1)):Int)) w) (ldi b46 2 w fun n62=>cnd (a3 != n62) (sto (zI 0) b7 0 w fun w=>sto (zI 0) b7 1 w fun w=>sto (zI 0) b7 2 w fun w=>ldi b7 0 w fun n66=>ldi b7 1 w fun n67=>ldi b7 2 w fun n68=>Q (.tuple [.agg [zI n66,zI n67,zI n68].toArray,zI 40].toArray) w) (drw w fun w=>ldi b46 3 w fun n70=>ldi b46 4 w fun n71=>ldi b46 6 w fun n72=>(nz n72 <| ldi b46 5 w fun n73=>alc [zI 0,zI 0,zI 0] T.t100 w fun b74 w=>(ldi b46 5 w fun n76=>((zI n76:Value) = zI n73))∧(ldi b46 6 w fun n77=>((zI n77:Value) = zI n72))∧(ldi b46 4 w fun n78=>((zI n78:Value) = zI n71))∧(ldi b46 3 w fun n79=>((zI n79:Value) = zI n70))∧sto (zI n70) b74 0 w fun w=>sto (zI n71) b74 1 w fun w=>st1 (zI (IntKind.i64.wrap ((IntKind.i64.wrap (Int.tdiv a3 n72)) * n73))) ⟨b74,2,none⟩ w fun w=>drw w fun w=>ldi b74 1 w fun n84=>ldi b46 0 w fun n85=>ldi b46 6 w fun n86=>(nz n86 <| ldi b46 5 w fun n87=>st1 (zI (IntKind.i64.wrap (n84 + (IntKind.i64.wrap ((IntKind.i64.wrap (Int.tdiv (IntKind.i64.wrap (a2 - n85)) n86)) * n87))))) ⟨b74,1,none⟩ w fun w=>ldi b74 0 w fun n89=>ldi b74 1 w fun n90=>ldi b74 2 w fun n91=>sto (zI n89) b7 0 w fun w=>sto (zI n90) b7 1 w fun w=>sto (zI n91) b7 2 w fun w=>ldi b7 0 w fun n95=>ldi b7 1 w fun n96=>ldi b7 2 w fun n97=>Q (.tuple [.agg [zI n95,zI n96,zI n97].toArray,zI 0].toArray) w))))
def zzh0 (a2 a3:Int) (Q:Value→World→Prop) (b7:Nat) (n34:Int) (A36:zzdq.S→World→Prop) (b46:Nat) (n56:Int) (w:World) (A58:zzcM.S→World→Prop):Prop:=cnd (decide (n56 < (IntKind.i64.wrap (a2 + a3)))) (JoinT (fun (J98:zzdT.S→World→Prop)=>ldi b46 0 w fun n99=>cnd (decide (n56 < n99)) (J98 true w) (ldi b46 1 w fun n100=>J98 (((decide (n56≥n100)):Bool)) w)) fun (s101:zzdT.S) w=>zzfP a2 a3 Q b7 b46 n56 A58 s101 w) (A36 (((IntKind.i64.wrap (n34 + 1)):Int)) w)
def zzh1 (a0:Option Addr) (a0_n:Nat) (a2 a3:Int) (Q:Value→World→Prop) (b7:Nat) (n34:Int) (w:World) (A36:zzdq.S→World→Prop):Prop:=cnd (decide (n34 < ((a0_n:Nat):Int))) (ix n34 a0_n fun j37=>nn a0 fun a38=>ldI .i64 (a38.add (j37 * 7)) w fun n39=>ldI .i64 ((a38.add (j37 * 7)).add 1) w fun n40=>ldI .i64 ((a38.add (j37 * 7)).add 2) w fun n41=>ldI .i64 ((a38.add (j37 * 7)).add 3) w fun n42=>ldI .i64 ((a38.add (j37 * 7)).add 4) w fun n43=>ldI .i64 ((a38.add (j37 * 7)).add 5) w fun n44=>ldI .i64 ((a38.add (j37 * 7)).add 6) w fun n45=>alc [zI 0,zI 0,zI 0,zI 0,zI 0,zI 0,zI 0] T.t244 w fun b46 w=>sto (zI n39) b46 0 w fun w=>sto (zI n40) b46 1 w fun w=>sto (zI n41) b46 2 w fun w=>sto (zI n42) b46 3 w fun w=>sto (zI n43) b46 4 w fun w=>sto (zI n44) b46 5 w fun w=>sto (zI n45) b46 6 w fun w=>LoopT (fun (s103:zzcM.S) w A105=>zzh0 a2 a3 Q b7 n34 A36 b46 s103 w A105) ((a2:Int)) w) (sto (zI 0) b7 0 w fun w=>sto (zI 0) b7 1 w fun w=>sto (zI 0) b7 2 w fun w=>ldi b7 0 w fun n109=>ldi b7 1 w fun n110=>ldi b7 2 w fun n111=>Q (.tuple [.agg [zI n109,zI n110,zI n111].toArray,zI 0].toArray) w)
def zzfQ (a0:Option Addr) (a0_n:Nat) (a2 a3:Int) (Q:Value→World→Prop) (b7:Nat) (b25:Bool) (w:World):Prop:=cnd b25 (sto (zI 0) b7 0 w fun w=>sto (zI 0) b7 1 w fun w=>sto (zI 0) b7 2 w fun w=>ldi b7 0 w fun n30=>ldi b7 1 w fun n31=>ldi b7 2 w fun n32=>Q (.tuple [.agg [zI n30,zI n31,zI n32].toArray,zI 42].toArray) w) (LoopT (fun (s112:zzdq.S) w A114=>zzh1 a0 a0_n a2 a3 Q b7 s112 w A114) ((0:Int)) w)
def zzfR (a0:Option Addr) (a0_n:Nat) (a1 a2 a3:Int) (Q:Value→World→Prop) (b7:Nat) (b10:Bool) (w:World):Prop:=cnd b10 (sto (zI 0) b7 0 w fun w=>sto (zI 0) b7 1 w fun w=>sto (zI 0) b7 2 w fun w=>ldi b7 0 w fun n15=>ldi b7 1 w fun n16=>ldi b7 2 w fun n17=>Q (.tuple [.agg [zI n15,zI n16,zI n17].toArray,zI 40].toArray) w) ((nz a3 <| cnd ((Int.tmod a2 a3) != 0) (sto (zI 0) b7 0 w fun w=>sto (zI 0) b7 1 w fun w=>sto (zI 0) b7 2 w fun w=>ldi b7 0 w fun n21=>ldi b7 1 w fun n22=>ldi b7 2 w fun n23=>Q (.tuple [.agg [zI n21,zI n22,zI n23].toArray,zI 41].toArray) w) (JoinT (fun (J115:zzff.S→World→Prop)=>cnd (decide (a2 < 0)) (J115 true w) (J115 (((decide (a2 > (IntKind.i64.wrap (a1 - a3)))):Bool)) w)) fun (s116:zzff.S) w=>zzfQ a0 a0_n a2 a3 Q b7 s116 w)))
def zzcV (a0:Option Addr) (a0_n a0_c:Nat) (a1 a2 a3:Int) (w:World) (Q:Value→World→Prop):Prop:=alc [zI 0,zI 0,zI 0] T.t100 w fun b7 w=>JoinT (fun (J118:zzfO.S→World→Prop)=>cnd (a3 != 4) (J118 (((a3 != 8):Bool)) w) (J118 false w)) fun (s119:zzfO.S) w=>zzfR a0 a0_n a1 a2 a3 Q b7 s119 w
def zzkP:Nat→Option LSp:=fun | 6=>some zzfO | 30=>some zzff | 250=>some zzdq | 32038=>some zzcM | 1025224=>some zzdT | 4100902=>some (ordSpec [0,1,2,3,4,5,6,7,8,9,10,11,12,13]) | 8201806=>some (ordSpec [0,1,2,3,4,5,6,7,8,9,10,11,12,13,14]) | _=>none
theorem zzlp {a0 a0_n a0_c a1 a2 a3 w Q} (h:zzcV a0 a0_n a0_c a1 a2 a3 w Q):CV P F.zzcV [.slice a0 a0_n a0_c,zI a1,zI a2,zI a3] w Q:=CV_of (ann:=zzkP) mixed Tryz.func139 (Eq.mp (by kernel_rfl) h)
def zzdC (w:World) (Q:Value→World→Prop):Prop:=alc [zI 0,zI 4,zI 4,zI 1,zI 0,zI 0,zI 1,zI 8,zI 16,zI 8,zI 2,zI 0,zI 0,zI 1,zI 128,zI 136,zI 8,zI 19,zI 0,zI 0,zI 1,zI 136,zI 144,zI 8,zI 20,zI 0,zI 0,zI 1,zI 144,zI 152,zI 8,zI 21,zI 0,zI 0,zI 1] T.t244 w fun b1 w=>Q (.slice (some ⟨b1,0,none⟩) 5 5) w
def zzlq:Nat→Option LSp:=fun _=>none
theorem zzlO {w Q} (h:zzdC w Q):CV P F.zzdC [] w Q:=CV_of (ann:=zzlq) mixed Tryz.func140 (Eq.mp (by kernel_rfl) h)
def zzfS:LSp:=spB 2
def zzh2 (Q:Value→World→Prop) (b6:Bool) (w:World):Prop:=Q (.bool b6) w
def zzcW (a0_0 a0_1:Int) (w:World) (Q:Value→World→Prop):Prop:=alc [zI a0_0,zI a0_1] T.t33 w fun b3 w=>JoinT (fun (J8:zzfS.S→World→Prop)=>ldi b3 0 w fun n9=>cnd (decide (n9≥0)) (ldi b3 0 w fun n10=>cnd (decide (n10≤1099511627776)) (ldi b3 1 w fun n11=>cnd (decide (n11≥0)) (ldi b3 1 w fun n12=>J8 (((decide (n12≤1099511627776)):Bool)) w) (J8 false w)) (J8 false w)) (J8 false w)) fun (s13:zzfS.S) w=>zzh2 Q s13 w
def zzkQ:Nat→Option LSp:=fun | 3=>some zzfS | _=>none
theorem zzlr {a0_0 a0_1 w Q} (h:zzcW a0_0 a0_1 w Q):CV P F.zzcW [.agg [zI a0_0,zI a0_1].toArray] w Q:=CV_of (ann:=zzkQ) mixed Tryz.func141 (Eq.mp (by kernel_rfl) h)
def zzeY:LSp:=spB 25
def zzcY:LSp where
 S:=Int×(Option Addr×Nat×Nat)
 emb:=fun s=>[(9,.int .i64 s.1),(11,.slice s.2.1 s.2.2.1 s.2.2.2)]
 ext:=fun t=>match getL t 9,getL t 11 with
  | some (.int .i64 y14),some (.slice y15 y16 y17)=>some (y14,(y15,y16,y17))
  | _,_=>none
 slots:=[9,11]
 fits:=fun _=>rfl
 ok:=by
  intro t s h x hx
  (try dsimp only at h hx)
  split at h
  · cases h
    simp only [List.mem_cons,List.not_mem_nil,or_false] at hx
    rcases hx with rfl | rfl <;> assumption
  · cases h
def zzel:LSp where
 S:=Int×(Option Addr×Nat×Nat)
 emb:=fun s=>[(9,.int .i64 s.1),(11,.slice s.2.1 s.2.2.1 s.2.2.2)]
 ext:=fun t=>match getL t 9,getL t 11 with
  | some (.int .i64 y24),some (.slice y25 y26 y27)=>some (y24,(y25,y26,y27))
  | _,_=>none
 slots:=[9,11]
 fits:=fun _=>rfl
 ok:=by
  intro t s h x hx
  (try dsimp only at h hx)
  split at h
  · cases h
    simp only [List.mem_cons,List.not_mem_nil,or_false] at hx
    rcases hx with rfl | rfl <;> assumption
  · cases h
def zzhy (A23:zzcY.S→World→Prop) (n28:Int) (p29:Option Addr) (l30 c31:Nat) (w:World):Prop:=A23 ((n28:Int),((p29:Option Addr),(l30:Nat),(c31:Nat))) w
def zzhz (a0 a1:Int) (Q:Value→World→Prop) (n10 n18:Int) (p19:Option Addr) (l20 c21:Nat) (w:World) (A23:zzcY.S→World→Prop):Prop:=cnd (n18 != n10) (JoinT (fun (J33:zzel.S→World→Prop)=>alc [zI (IntKind.i64.wrap (n18 * a1))] T.t3 w fun b34 w=>runS P (Builtin.append_ #[T.t22,T.t22] T.t22 [.slice p19 l20 c21,.slice (some ⟨b34,0,none⟩) 1 1].toArray) w fun p36 l37 c38 w=>(nz a1 <| cnd ((IntKind.i64.wrap (n18 + 1)) == (IntKind.i64.wrap (Int.tdiv a0 a1))) (J33 ((0:Int),((p36:Option Addr),(l37:Nat),(c38:Nat))) w) (J33 (((IntKind.i64.wrap (n18 + 1)):Int),((p36:Option Addr),(l37:Nat),(c38:Nat))) w))) fun (s40:zzel.S) w=>zzhy A23 s40.1 s40.2.1 s40.2.2.1 s40.2.2.2 w) (Q (.slice p19 l20 c21) w)
def zzdX (a0 a1:Int) (Q:Value→World→Prop) (n7 n10:Int) (b12:Bool) (w:World):Prop:=cnd b12 (Q (.slice none 0 0) w) (LoopT (fun (s42:zzcY.S) w A44=>zzhz a0 a1 Q n10 s42.1 s42.2.1 s42.2.2.1 s42.2.2.2 w A44) ((n7:Int),((none:Option Addr),(0:Nat),(0:Nat))) w)
def zzcC (a0 a1:Int) (a2 a3:Int) (w:World) (Q:Value→World→Prop):Prop:=CV P F.zzbp [zI a0,zI a1,zI a2] w fun v5 w=>∃ n7:Int,v5 = zI n7∧CV P F.zzbp [zI a0,zI a1,zI a3] w fun v8 w=>∃ n10:Int,v8 = zI n10∧JoinT (fun (J45:zzeY.S→World→Prop)=>cnd (decide (n7 < 0)) (J45 true w) (J45 (((decide (n10 < 0)):Bool)) w)) fun (s46:zzeY.S) w=>zzdX a0 a1 Q n7 n10 s46 w
def zzkb:Nat→Option LSp:=fun | 62=>some zzeY | 252=>some zzcY | 1009=>some zzel | _=>none
theorem zzkR {a0 a1 a2 a3 w Q} (h:zzcC a0 a1 a2 a3 w Q):CV P F.zzcC [zI a0,zI a1,zI a2,zI a3] w Q:=CV_of (ann:=zzkb) mixed Tryz.func142 (Eq.mp (by kernel_rfl) h)
def cmp_isNaN_int (a0:Int) (w:World) (Q:Value→World→Prop):Prop:=Q (.bool (a0 != a0)) w
def cmp_isNaN_int_ann:Nat→Option LSp:=fun _=>none
theorem cmp_isNaN_int_cv {a0 w Q} (h:cmp_isNaN_int a0 w Q):CV P F.cmp_isNaN_int [zI a0] w Q:=CV_of (ann:=cmp_isNaN_int_ann) mixed Tryz.func143 (Eq.mp (by kernel_rfl) h)
def zzb1:LSp:=spI .i64 8
def zzdZ (a0:Value) (f1:Addr) (Q:Value→World→Prop) (p4:Option Addr) (l5:Nat) (n8:Int) (w:World) (A10:zzb1.S→World→Prop):Prop:=cnd (decide (n8 < ((l5:Nat):Int))) (ix n8 l5 fun j11=>nn p4 fun a12=>ldI .i64 (a12.add (j11 * 1)) w fun n13=>ldL f1 w fun p14 l15 c16=>ix n8 l15 fun j17=>nn p14 fun a18=>ldI .i64 (a18.add (j17 * 3)) w fun n19=>ldI .i64 ((a18.add (j17 * 3)).add 1) w fun n20=>ldB ((a18.add (j17 * 3)).add 2) w fun b21=>callVal P a0 [zI n13,.agg [zI n19,zI n20,.bool b21].toArray] w fun v22 w=>∃ b24:Bool,v22 = .bool b24∧cnd (!b24) (Q (.tuple [].toArray) w) (A10 (((IntKind.i64.wrap (n8 + 1)):Int)) w)) (Q (.tuple [].toArray) w)
def zzam (a0:Value) (f0 f1:Addr) (w:World) (Q:Value→World→Prop):Prop:=ldL f0 w fun p4 l5 c6=>LoopT (fun (s25:zzb1.S) w A27=>zzdZ a0 f1 Q p4 l5 s25 w A27) ((0:Int)) w
def zzgZ:Nat→Option LSp:=fun | 6=>some zzb1 | _=>none
theorem zzhb {a0 f0 f1 w Q} (h:zzam a0 f0 f1 w Q):CV P F.zzam [a0,.pointer (some f0),.pointer (some f1)] w Q:=CV_of (ann:=zzgZ) mixed Tryz.func144 (Eq.mp (by kernel_rfl) h)
def zzaq (a0:Option Addr) (a0_n a0_c:Nat) (a1 a2:Int) (w:World) (Q:Value→World→Prop):Prop:=slL a0 a0_n a0_c 3 (some a1) (some a2) (some ((a0_n:Nat):Int)) fun p6 l7 c8=>cnd (a1 == a2) (Q (.slice a0 a0_n a0_c) w) (drw w fun w=>slL a0 a0_n a0_c 3 none (some a1) none fun p10 l11 c12=>slL a0 a0_n a0_c 3 (some a2) none none fun p13 l14 c15=>runS P (Builtin.append_ #[T.t140,T.t140] T.t140 [.slice p10 l11 c12,.slice p13 l14 c15].toArray) w fun p16 l17 c18 w=>slL p16 l17 c18 3 (some ((l17:Nat):Int)) (some ((a0_n:Nat):Int)) none fun p20 l21 c22=>runV P (Builtin.clear_ #[T.t140] T.t0 [.slice p20 l21 c22].toArray) w fun v23 w=>v23 = undef∧Q (.slice p16 l17 c18) w)
def zzfg:Nat→Option LSp:=fun | 62=>some (ordSpec [0,1,2,3,4,5,6,7]) | _=>none
theorem zzfq {a0 a0_n a0_c a1 a2 w Q} (h:zzaq a0 a0_n a0_c a1 a2 w Q):CV P F.zzaq [.slice a0 a0_n a0_c,zI a1,zI a2] w Q:=CV_of (ann:=zzfg) mixed Tryz.func145 (Eq.mp (by kernel_rfl) h)
def zzcD (a0:Option Addr) (a0_n a0_c:Nat) (a1:Int) (w:World) (Q:Value→World→Prop):Prop:=CV P F.zzeJ [.slice a0 a0_n a0_c,zI (IntKind.i64.wrap (((a0_n:Nat):Int) - a1))] w fun v5 w=>v5 = .tuple [].toArray∧Q (.tuple [].toArray) w
def zzes (a0:Option Addr) (a1_0 a1_1:Int) (a2 a3:Int) (w:World) (Q:Value→World→Prop):Prop:=alc [zI a1_0,zI a1_1] T.t33 w fun b6 w=>ldi b6 0 w fun n8=>ldi b6 1 w fun n9=>CV P F.zzcZ [.pointer a0,.agg [zI n8,zI n9].toArray] w fun v10 w=>∃ b12:Bool,v10 = .bool b12∧cnd (!b12) (Q (.tuple [.slice none 0 0,zI 42].toArray) w) (ldi b6 1 w fun n13=>CV P F.zziQ [zI n13,zI a2,zI a3] w fun v14 w=>∃ n16:Int,v14 = zI n16∧cnd (n16 != 0) (Q (.tuple [.slice none 0 0,zI n16].toArray) w) (drw w fun w=>nn a0 fun a18=>ldL a18 w fun p19 l20 c21=>ldi b6 0 w fun n22=>ldi b6 0 w fun n23=>slL p19 l20 c21 1 (some (IntKind.i64.wrap (n22 + a2))) (some (IntKind.i64.wrap ((IntKind.i64.wrap (n23 + a2)) + a3))) none fun p24 l25 c26=>Q (.tuple [.slice p24 l25 c26,zI 0].toArray) w))
def zzl1:Nat→Option LSp:=fun | 30=>some (ordSpec [0,1,2,3,4,5,6,7,8,9,10,11,12,13,14,15,16]) | _=>none
theorem zzl8 {a0 a1_0 a1_1 a2 a3 w Q} (h:zzes a0 a1_0 a1_1 a2 a3 w Q):CV P F.zzes [.pointer a0,.agg [zI a1_0,zI a1_1].toArray,zI a2,zI a3] w Q:=CV_of (ann:=zzl1) mixed Tryz.func148 (Eq.mp (by kernel_rfl) h)
def zzkc:LSp:=spU
def zzl9 (Q:Value→World→Prop) (w:World):Prop:=Q (.tuple [].toArray) w
def zziP (a0:Option Addr) (a1 a2:Int) (w:World) (Q:Value→World→Prop):Prop:=JoinT (fun (J5:zzkc.S→World→Prop)=>cnd (a1 == 0) (nn a0 fun a6=>st1 (zI a2) (a6.add 1) w fun w=>J5 () w) (cnd (a1 == 1) (nn a0 fun a8=>st1 (zI a2) (a8.add 2) w fun w=>J5 () w) (cnd (a1 == 2) (nn a0 fun a10=>st1 (zI a2) (a10.add 3) w fun w=>J5 () w) (cnd (a1 == 3) (nn a0 fun a12=>st1 (zI a2) (a12.add 4) w fun w=>J5 () w) (cnd (a1 == 4) (nn a0 fun a14=>st1 (zI a2) (a14.add 5) w fun w=>J5 () w) (cnd (a1 == 5) (nn a0 fun a16=>st1 (zI a2) (a16.add 6) w fun w=>J5 () w) (cnd (a1 == 6) ((nng 8 <| nn a0 fun a18=>st1 (zI (IntKind.i64.wrap (a2 * 2 ^ min (Int.toNat 8) (IntKind.i64.bits)))) (a18.add 7) w fun w=>J5 () w)) (nn a0 fun a20=>st1 (.bool (a2 == 1)) (a20.add 8) w fun w=>J5 () w)))))))) fun (s22:zzkc.S) w=>zzl9 Q w
def zzmI:Nat→Option LSp:=fun | 3=>some zzkc | _=>none
theorem zzmM {a0 a1 a2 w Q} (h:zziP a0 a1 a2 w Q):CV P F.zziP [.pointer a0,zI a1,zI a2] w Q:=CV_of (ann:=zzmI) mixed Tryz.func149 (Eq.mp (by kernel_rfl) h)
def zzg3 (a0:Option Addr) (a0_n a0_c:Nat) (a1:Int) (w:World) (Q:Value→World→Prop):Prop:=slL a0 a0_n a0_c 1 none (some a1) none fun p5 l6 c7=>CV P F.zzck [.slice p5 l6 c7] w fun v8 w=>v8 = .tuple [].toArray∧slL a0 a0_n a0_c 1 (some a1) none none fun p10 l11 c12=>CV P F.zzck [.slice p10 l11 c12] w fun v13 w=>v13 = .tuple [].toArray∧CV P F.zzck [.slice a0 a0_n a0_c] w fun v15 w=>v15 = .tuple [].toArray∧Q (.tuple [].toArray) w
def zzen (a0:Option Addr) (a0_n a0_c:Nat) (a1:Int) (w:World) (Q:Value→World→Prop):Prop:=slL a0 a0_n a0_c 2 none (some a1) none fun p5 l6 c7=>CV P F.zzaG [.slice p5 l6 c7] w fun v8 w=>v8 = .tuple [].toArray∧slL a0 a0_n a0_c 2 (some a1) none none fun p10 l11 c12=>CV P F.zzaG [.slice p10 l11 c12] w fun v13 w=>v13 = .tuple [].toArray∧CV P F.zzaG [.slice a0 a0_n a0_c] w fun v15 w=>v15 = .tuple [].toArray∧Q (.tuple [].toArray) w
def zzfT:LSp:=spI .i64 5
def zzis (a0:Int) (a1:Option Addr) (a1_n:Nat) (Q:Value→World→Prop) (n6:Int) (w:World) (A8:zzfT.S→World→Prop):Prop:=cnd (decide (n6 < ((a1_n:Nat):Int))) (ix n6 a1_n fun j9=>nn a1 fun a10=>ldI .i64 (a10.add (j9 * 1)) w fun n11=>cnd (n11 == a0) (Q (.bool true) w) (A8 (((IntKind.i64.wrap (n6 + 1)):Int)) w)) (Q (.bool false) w)
def zzaT (a0:Int) (a1:Option Addr) (a1_n a1_c:Nat) (w:World) (Q:Value→World→Prop):Prop:=LoopT (fun (s12:zzfT.S) w A14=>zzis a0 a1 a1_n Q s12 w A14) ((0:Int)) w
def zzls:Nat→Option LSp:=fun | 26=>some zzfT | _=>none
theorem zzlP {a0 a1 a1_n a1_c w Q} (h:zzaT a0 a1 a1_n a1_c w Q):CV P F.zzaT [zI a0,.slice a1 a1_n a1_c] w Q:=CV_of (ann:=zzls) mixed Tryz.func152 (Eq.mp (by kernel_rfl) h)
def zzdD (a0:Bool) (w:World) (Q:Value→World→Prop):Prop:=cnd a0 (Q (zI 1) w) (Q (zI 0) w)
def zzlt:Nat→Option LSp:=fun _=>none
theorem zzlQ {a0 w Q} (h:zzdD a0 w Q):CV P F.zzdD [.bool a0] w Q:=CV_of (ann:=zzlt) mixed Tryz.func153 (Eq.mp (by kernel_rfl) h)
def zzeZ:LSp:=spI .i64 7
def zzhA (a0 a1 a2:Int) (Q:Value→World→Prop) (n8:Int) (w:World) (A10:zzeZ.S→World→Prop):Prop:=(nz a1 <| cnd (decide (n8 < (IntKind.i64.wrap (Int.tdiv a0 a1)))) (cnd ((IntKind.i64.wrap (n8 * a1)) == a2) (Q (zI n8) w) (A10 (((IntKind.i64.wrap (n8 + 1)):Int)) w)) (Q (zI (-1)) w))
def zzbp (a0 a1 a2:Int) (w:World) (Q:Value→World→Prop):Prop:=CV P F.zzcF [zI a0,zI a1] w fun v4 w=>∃ b6:Bool,v4 = .bool b6∧cnd (!b6) (Q (zI (-1)) w) (LoopT (fun (s11:zzeZ.S) w A13=>zzhA a0 a1 a2 Q s11 w A13) ((0:Int)) w)
def zzkd:Nat→Option LSp:=fun | 58=>some zzeZ | _=>none
theorem zzkS {a0 a1 a2 w Q} (h:zzbp a0 a1 a2 w Q):CV P F.zzbp [zI a0,zI a1,zI a2] w Q:=CV_of (ann:=zzkd) mixed Tryz.func154 (Eq.mp (by kernel_rfl) h)
def zzgw:LSp:=spB 16
def zzfU:LSp:=spB 29
def zzit (Q:Value→World→Prop) (b8:Bool) (w:World):Prop:=cnd b8 (Q (zI 42) w) (Q (zI 0) w)
def zzgx (a0 a1 a2:Int) (Q:Value→World→Prop) (b5:Bool) (w:World):Prop:=cnd b5 (Q (zI 40) w) ((nz a2 <| cnd ((Int.tmod a1 a2) != 0) (Q (zI 41) w) (JoinT (fun (J10:zzfU.S→World→Prop)=>cnd (decide (a1 < 0)) (J10 true w) (J10 (((decide (a1 > (IntKind.i64.wrap (a0 - a2)))):Bool)) w)) fun (s11:zzfU.S) w=>zzit Q s11 w)))
def zzcE (a0 a1 a2:Int) (w:World) (Q:Value→World→Prop):Prop:=JoinT (fun (J13:zzgw.S→World→Prop)=>cnd (a2 != 1) (cnd (a2 != 4) (J13 (((a2 != 8):Bool)) w) (J13 false w)) (J13 false w)) fun (s14:zzgw.S) w=>zzgx a0 a1 a2 Q s14 w
def zzlu:Nat→Option LSp:=fun | 6=>some zzgw | 30=>some zzfU | _=>none
theorem zzlR {a0 a1 a2 w Q} (h:zzcE a0 a1 a2 w Q):CV P F.zzcE [zI a0,zI a1,zI a2] w Q:=CV_of (ann:=zzlu) mixed Tryz.func155 (Eq.mp (by kernel_rfl) h)
def zzdU:LSp:=spII .u64 11 .i64 12
def zzgI (a0:Option Addr) (a2:Int) (Q:Value→World→Prop) (b6:Nat) (n19 n20:Int) (w:World) (A22:zzdU.S→World→Prop):Prop:=cnd (decide (n20≥0)) (drw w fun w=>nn a0 fun a24=>ldL a24 w fun p25 l26 c27=>ldi b6 0 w fun n28=>ix (IntKind.i64.wrap ((IntKind.i64.wrap (n28 + a2)) + n20)) l26 fun j29=>nn p25 fun a30=>ldI .u8 (a30.add (j29 * 1)) w fun n31=>A22 (((IntKind.u64.wrap ((IntKind.u64.wrap (n19 * 256)) + (IntKind.u64.wrap (n31)))):Int),((IntKind.i64.wrap (n20 - 1)):Int)) w) (Q (.tuple [.int .u64 n19,zI 0].toArray) w)
def zzbK (a0:Option Addr) (a1_0 a1_1:Int) (a2 a3:Int) (w:World) (Q:Value→World→Prop):Prop:=alc [zI a1_0,zI a1_1] T.t33 w fun b6 w=>ldi b6 0 w fun n8=>ldi b6 1 w fun n9=>CV P F.zzav [.pointer a0,.agg [zI n8,zI n9].toArray] w fun v10 w=>∃ b12:Bool,v10 = .bool b12∧cnd (!b12) (Q (.tuple [.int .u64 0,zI 42].toArray) w) (ldi b6 1 w fun n13=>CV P F.zzcE [zI n13,zI a2,zI a3] w fun v14 w=>∃ n16:Int,v14 = zI n16∧cnd (n16 != 0) (Q (.tuple [.int .u64 0,zI n16].toArray) w) (LoopT (fun (s32:zzdU.S) w A34=>zzgI a0 a2 Q b6 s32.1 s32.2 w A34) ((0:Int),((IntKind.i64.wrap (a3 - 1)):Int)) w))
def zzjC:Nat→Option LSp:=fun | 506=>some zzdU | 8100=>some (ordSpec [0,1,2,3,4,5,6,7,8,9,10,11,12,13,14,15,16]) | _=>none
theorem zzjJ {a0 a1_0 a1_1 a2 a3 w Q} (h:zzbK a0 a1_0 a1_1 a2 a3 w Q):CV P F.zzbK [.pointer a0,.agg [zI a1_0,zI a1_1].toArray,zI a2,zI a3] w Q:=CV_of (ann:=zzjC) mixed Tryz.func156 (Eq.mp (by kernel_rfl) h)
def zzcN:LSp:=spI .i64 8
def zzaI:LSp:=spU
def zze0 (n72:Int) (A74:zzcN.S→World→Prop) (w:World):Prop:=A74 (((IntKind.i64.wrap (n72 + 1)):Int)) w
def zzbf:LSp:=spB 59
def zzc9:LSp:=spB 73
def zzhq (b11 b81:Nat) (n95:Int) (J97:zzaI.S→World→Prop) (b105:Bool) (w:World):Prop:=cnd b105 (sto (zI n95) b11 2 w fun w=>J97 () w) (ldi b81 0 w fun n108=>cnd (n108 == 1) (sto (zI n95) b11 6 w fun w=>J97 () w) (ldi b81 1 w fun n110=>cnd (n110 == 0) (sto (zI n95) b11 4 w fun w=>J97 () w) (ldi b81 1 w fun n112=>cnd (n112 == 16) (sto (zI n95) b11 5 w fun w=>J97 () w) (ldi b81 1 w fun n114=>cnd (n114 == 8) (st1 (zI (IntKind.i64.wrap (256 * n95))) ⟨b11,7,none⟩ w fun w=>J97 () w) (sto (.bool (n95 == 1)) b11 8 w fun w=>J97 () w)))))
def zze1 (b11 b81:Nat) (n95:Int) (J97:zzaI.S→World→Prop) (b101:Bool) (w:World):Prop:=cnd b101 (sto (zI n95) b11 3 w fun w=>J97 () w) (JoinT (fun (J117:zzc9.S→World→Prop)=>ldi b81 0 w fun n118=>cnd (n118 == 1) (ldi b81 2 w fun n119=>J117 (((n119 == 32):Bool)) w) (J117 false w)) fun (s120:zzc9.S) w=>zzhq b11 b81 n95 J97 s120 w)
def zzem:LSp:=spB 120
def zze2 (Q:Value→World→Prop) (b7 b11:Nat) (b153:Bool) (w:World):Prop:=cnd b153 (sto (zI 0) b7 0 w fun w=>sto (zI 0) b7 1 w fun w=>sto (zI 0) b7 2 w fun w=>sto (zI 0) b7 3 w fun w=>sto (zI 0) b7 4 w fun w=>sto (zI 0) b7 5 w fun w=>sto (zI 0) b7 6 w fun w=>sto (zI 0) b7 7 w fun w=>sto (.bool false) b7 8 w fun w=>ldi b7 0 w fun n164=>ldi b7 1 w fun n165=>ldi b7 2 w fun n166=>ldi b7 3 w fun n167=>ldi b7 4 w fun n168=>ldi b7 5 w fun n169=>ldi b7 6 w fun n170=>ldi b7 7 w fun n171=>zldB b7 8 w fun b172=>Q (.tuple [.agg [zI n164,zI n165,zI n166,zI n167,zI n168,zI n169,zI n170,zI n171,.bool b172].toArray,.bool false].toArray) w) (ldi b11 0 w fun n173=>ldi b11 1 w fun n174=>ldi b11 2 w fun n175=>ldi b11 3 w fun n176=>ldi b11 4 w fun n177=>ldi b11 5 w fun n178=>ldi b11 6 w fun n179=>ldi b11 7 w fun n180=>zldB b11 8 w fun b181=>sto (zI n173) b7 0 w fun w=>sto (zI n174) b7 1 w fun w=>sto (zI n175) b7 2 w fun w=>sto (zI n176) b7 3 w fun w=>sto (zI n177) b7 4 w fun w=>sto (zI n178) b7 5 w fun w=>sto (zI n179) b7 6 w fun w=>sto (zI n180) b7 7 w fun w=>sto (.bool b181) b7 8 w fun w=>ldi b7 0 w fun n191=>ldi b7 1 w fun n192=>ldi b7 2 w fun n193=>ldi b7 3 w fun n194=>ldi b7 4 w fun n195=>ldi b7 5 w fun n196=>ldi b7 6 w fun n197=>ldi b7 7 w fun n198=>zldB b7 8 w fun b199=>Q (.tuple [.agg [zI n191,zI n192,zI n193,zI n194,zI n195,zI n196,zI n197,zI n198,.bool b199].toArray,.bool true].toArray) w)
def zzhr (Q:Value→World→Prop) (b5 b7 b11:Nat) (p45:Option Addr) (l46:Nat) (n72:Int) (w:World) (A74:zzcN.S→World→Prop):Prop:=cnd (decide (n72 < ((l46:Nat):Int))) (ix n72 l46 fun j75=>nn p45 fun a76=>ldI .i64 (a76.add (j75 * 4)) w fun n77=>ldI .i64 ((a76.add (j75 * 4)).add 1) w fun n78=>ldI .i64 ((a76.add (j75 * 4)).add 2) w fun n79=>ldI .i64 ((a76.add (j75 * 4)).add 3) w fun n80=>alc [zI 0,zI 0,zI 0,zI 0] T.t219 w fun b81 w=>sto (zI n77) b81 0 w fun w=>sto (zI n78) b81 1 w fun w=>sto (zI n79) b81 2 w fun w=>sto (zI n80) b81 3 w fun w=>drw w fun w=>ldi b81 0 w fun n88=>ix n88 4 fun j89=>ldI .u64 (Addr.add ⟨b5,0,none⟩ (j89 * 1)) w fun n90=>ldi b81 1 w fun n91=>ldi b81 2 w fun n92=>CV P F.zzcX [.int .u64 n90,zI n91,zI n92] w fun v93 w=>∃ n95:Int,v93 = zI n95∧JoinT (fun (J97:zzaI.S→World→Prop)=>ldi b81 0 w fun n98=>cnd (n98 == 0) (sto (zI n95) b11 1 w fun w=>J97 () w) (JoinT (fun (J122:zzbf.S→World→Prop)=>ldi b81 0 w fun n123=>cnd (n123 == 3) (J122 (((n123 == 3):Bool)) w) (ldi b81 0 w fun n124=>cnd (n124 == 1) (ldi b81 1 w fun n125=>J122 (((n125 == 32):Bool)) w) (J122 false w))) fun (s126:zzbf.S) w=>zze1 b11 b81 n95 J97 s126 w)) fun (s128:zzaI.S) w=>zze0 n72 A74 w) (ldi b11 0 w fun n130=>ldi b11 1 w fun n131=>ldi b11 2 w fun n132=>ldi b11 3 w fun n133=>ldi b11 4 w fun n134=>ldi b11 5 w fun n135=>ldi b11 6 w fun n136=>ldi b11 7 w fun n137=>zldB b11 8 w fun b138=>CV P F.zza9 [.agg [zI n130,zI n131,zI n132,zI n133,zI n134,zI n135,zI n136,zI n137,.bool b138].toArray] w fun v139 w=>∃ n141 n142:Int,∃ n143 n144:Int,∃ b145:Bool,v139 = .tuple [.agg [.int .u64 n141,.int .u64 n142,.int .u64 n143,.int .u64 n144].toArray,.bool b145].toArray∧alc [.int .u64 0,.int .u64 0,.int .u64 0,.int .u64 0] T.t90 w fun b146 w=>sto (.int .u64 n141) b146 0 w fun w=>sto (.int .u64 n142) b146 1 w fun w=>sto (.int .u64 n143) b146 2 w fun w=>sto (.int .u64 n144) b146 3 w fun w=>JoinT (fun (J200:zzem.S→World→Prop)=>cnd (!b145) (J200 true w) (ldI .u64 ⟨b146,0,none⟩ w fun n201=>ldI .u64 ⟨b146,1,none⟩ w fun n202=>ldI .u64 ⟨b146,2,none⟩ w fun n203=>ldI .u64 ⟨b146,3,none⟩ w fun n204=>ldI .u64 ⟨b5,0,none⟩ w fun n205=>ldI .u64 ⟨b5,1,none⟩ w fun n206=>ldI .u64 ⟨b5,2,none⟩ w fun n207=>ldI .u64 ⟨b5,3,none⟩ w fun n208=>eqA P .neq T.t90 (.agg [.int .u64 n201,.int .u64 n202,.int .u64 n203,.int .u64 n204].toArray) (.agg [.int .u64 n205,.int .u64 n206,.int .u64 n207,.int .u64 n208].toArray) w fun b209=>J200 ((b209:Bool)) w)) fun (s210:zzem.S) w=>zze2 Q b7 b11 s210 w)
def zzch (a0_0 a0_1:Int) (a0_2 a0_3:Int) (w:World) (Q:Value→World→Prop):Prop:=alc [.int .u64 a0_0,.int .u64 a0_1,.int .u64 a0_2,.int .u64 a0_3] T.t90 w fun b5 w=>alc [zI 0,zI 0,zI 0,zI 0,zI 0,zI 0,zI 0,zI 0,.bool false] T.t26 w fun b7 w=>ix 0 4 fun j9=>ldI .u64 (Addr.add ⟨b5,0,none⟩ (j9 * 1)) w fun n10=>(nz 256 <| alc [zI 0,zI 0,zI 0,zI 0,zI 0,zI 0,zI 0,zI 0,.bool false] T.t26 w fun b11 w=>st1 (zI (IntKind.i64.wrap ((Int.tmod n10 256)))) ⟨b11,0,none⟩ w fun w=>sto (zI 0) b11 1 w fun w=>sto (zI 0) b11 2 w fun w=>sto (zI 0) b11 3 w fun w=>sto (zI 0) b11 4 w fun w=>sto (zI 0) b11 5 w fun w=>sto (zI 0) b11 6 w fun w=>sto (zI 0) b11 7 w fun w=>sto (.bool false) b11 8 w fun w=>ldi b11 0 w fun n22=>alc [zI 0,zI 0,zI 0,zI 0,zI 0,zI 0,zI 0,zI 0,.bool false] T.t26 w fun b23 w=>sto (zI n22) b23 0 w fun w=>sto (zI 0) b23 1 w fun w=>sto (zI 0) b23 2 w fun w=>sto (zI 0) b23 3 w fun w=>sto (zI 0) b23 4 w fun w=>sto (zI 0) b23 5 w fun w=>sto (zI 0) b23 6 w fun w=>sto (zI 0) b23 7 w fun w=>sto (.bool false) b23 8 w fun w=>ldi b23 0 w fun n34=>ldi b23 1 w fun n35=>ldi b23 2 w fun n36=>ldi b23 3 w fun n37=>ldi b23 4 w fun n38=>ldi b23 5 w fun n39=>ldi b23 6 w fun n40=>ldi b23 7 w fun n41=>zldB b23 8 w fun b42=>CV P F.zzbD [.agg [zI n34,zI n35,zI n36,zI n37,zI n38,zI n39,zI n40,zI n41,.bool b42].toArray] w fun v43 w=>∃ (p45:Option Addr) (l46 c47:Nat),∃ b48:Bool,v43 = .tuple [.slice p45 l46 c47,.bool b48].toArray∧ldi b11 0 w fun n49=>CV P F.zzbQ [zI n49] w fun v50 w=>∃ b52:Bool,v50 = .bool b52∧cnd (!b52) (sto (zI 0) b7 0 w fun w=>sto (zI 0) b7 1 w fun w=>sto (zI 0) b7 2 w fun w=>sto (zI 0) b7 3 w fun w=>sto (zI 0) b7 4 w fun w=>sto (zI 0) b7 5 w fun w=>sto (zI 0) b7 6 w fun w=>sto (zI 0) b7 7 w fun w=>sto (.bool false) b7 8 w fun w=>ldi b7 0 w fun n62=>ldi b7 1 w fun n63=>ldi b7 2 w fun n64=>ldi b7 3 w fun n65=>ldi b7 4 w fun n66=>ldi b7 5 w fun n67=>ldi b7 6 w fun n68=>ldi b7 7 w fun n69=>zldB b7 8 w fun b70=>Q (.tuple [.agg [zI n62,zI n63,zI n64,zI n65,zI n66,zI n67,zI n68,zI n69,.bool b70].toArray,.bool false].toArray) w) (LoopT (fun (s212:zzcN.S) w A214=>zzhr Q b5 b7 b11 p45 l46 s212 w A214) ((0:Int)) w))
def zzjR:Nat→Option LSp:=fun | 506=>some zzcN | 32402=>some (ordSpec [0,1,2,3,4,5,6,7,8,9]) | 32403=>some zzaI | 259227=>some zzbf | 1036911=>some zzc9 | 510=>some zzem | _=>none
theorem zzke {a0_0 a0_1 a0_2 a0_3 w Q} (h:zzch a0_0 a0_1 a0_2 a0_3 w Q):CV P F.zzch [.agg [.int .u64 a0_0,.int .u64 a0_1,.int .u64 a0_2,.int .u64 a0_3].toArray] w Q:=CV_of (ann:=zzjR) mixed Tryz.func157 (Eq.mp (by kernel_rfl) h)
def zzeJ (a0:Option Addr) (a0_n a0_c:Nat) (a1:Int) (w:World) (Q:Value→World→Prop):Prop:=slL a0 a0_n a0_c 3 none (some a1) none fun p5 l6 c7=>CV P F.zzaN [.slice p5 l6 c7] w fun v8 w=>v8 = .tuple [].toArray∧slL a0 a0_n a0_c 3 (some a1) none none fun p10 l11 c12=>CV P F.zzaN [.slice p10 l11 c12] w fun v13 w=>v13 = .tuple [].toArray∧CV P F.zzaN [.slice a0 a0_n a0_c] w fun v15 w=>v15 = .tuple [].toArray∧Q (.tuple [].toArray) w
def zzjK:LSp:=spB 7
def zzjl:LSp:=spB 23
def zzma (Q:Value→World→Prop) (b8:Bool) (w:World):Prop:=cnd b8 (Q (zI 42) w) (Q (zI 0) w)
def zzkf (a0 a1 a2:Int) (Q:Value→World→Prop) (b5:Bool) (w:World):Prop:=cnd b5 (Q (zI 40) w) ((nz a2 <| cnd ((Int.tmod a1 a2) != 0) (Q (zI 41) w) (JoinT (fun (J10:zzjl.S→World→Prop)=>cnd (decide (a1 < 0)) (J10 true w) (J10 (((decide (a1 > (IntKind.i64.wrap (a0 - a2)))):Bool)) w)) fun (s11:zzjl.S) w=>zzma Q s11 w)))
def zziQ (a0 a1 a2:Int) (w:World) (Q:Value→World→Prop):Prop:=JoinT (fun (J13:zzjK.S→World→Prop)=>cnd (a2 != 1) (cnd (a2 != 4) (J13 (((a2 != 8):Bool)) w) (J13 false w)) (J13 false w)) fun (s14:zzjK.S) w=>zzkf a0 a1 a2 Q s14 w
def zzmJ:Nat→Option LSp:=fun | 12=>some zzjK | 207=>some zzjl | _=>none
theorem zzmN {a0 a1 a2 w Q} (h:zziQ a0 a1 a2 w Q):CV P F.zziQ [zI a0,zI a1,zI a2] w Q:=CV_of (ann:=zzmJ) mixed Tryz.func159 (Eq.mp (by kernel_rfl) h)
def zze4:LSp:=spII .i64 2 .i64 3
def zzik (a0:Option Addr) (a0_n:Nat) (Q:Value→World→Prop) (n6 n7:Int) (w:World) (A9:zze4.S→World→Prop):Prop:=cnd (decide (n6 < n7)) (drw w fun w=>ix n7 a0_n fun j11=>nn a0 fun a12=>ldI .i64 (a12.add (j11 * 1)) w fun n13=>ix n6 a0_n fun j14=>nn a0 fun a15=>ldI .i64 (a15.add (j14 * 1)) w fun n16=>ix n6 a0_n fun j17=>nn a0 fun a18=>st1 (zI n13) (a18.add (j17 * 1)) w fun w=>ix n7 a0_n fun j20=>nn a0 fun a21=>st1 (zI n16) (a21.add (j20 * 1)) w fun w=>A9 (((IntKind.i64.wrap (n6 + 1)):Int),((IntKind.i64.wrap (n7 - 1)):Int)) w) (Q (.tuple [].toArray) w)
def zzck (a0:Option Addr) (a0_n a0_c:Nat) (w:World) (Q:Value→World→Prop):Prop:=LoopT (fun (s23:zze4.S) w A25=>zzik a0 a0_n Q s23.1 s23.2 w A25) ((0:Int),((IntKind.i64.wrap (((a0_n:Nat):Int) - 1)):Int)) w
def zzbW:LSp:=spII .i64 2 .i64 3
def zzeF (a0:Option Addr) (a0_n:Nat) (Q:Value→World→Prop) (n6 n7:Int) (w:World) (A9:zzbW.S→World→Prop):Prop:=cnd (decide (n6 < n7)) (drw w fun w=>ix n7 a0_n fun j11=>nn a0 fun a12=>ldI .i64 (a12.add (j11 * 2)) w fun n13=>ldP ((a12.add (j11 * 2)).add 1) w fun p14=>ix n6 a0_n fun j15=>nn a0 fun a16=>ldI .i64 (a16.add (j15 * 2)) w fun n17=>ldP ((a16.add (j15 * 2)).add 1) w fun p18=>ix n6 a0_n fun j19=>nn a0 fun a20=>st1 (zI n13) (a20.add (j19 * 2)) w fun w=>st1 (.pointer p14) ((a20.add (j19 * 2)).add 1) w fun w=>ix n7 a0_n fun j23=>nn a0 fun a24=>st1 (zI n17) (a24.add (j23 * 2)) w fun w=>st1 (.pointer p18) ((a24.add (j23 * 2)).add 1) w fun w=>A9 (((IntKind.i64.wrap (n6 + 1)):Int),((IntKind.i64.wrap (n7 - 1)):Int)) w) (Q (.tuple [].toArray) w)
def zzaG (a0:Option Addr) (a0_n a0_c:Nat) (w:World) (Q:Value→World→Prop):Prop:=LoopT (fun (s27:zzbW.S) w A29=>zzeF a0 a0_n Q s27.1 s27.2 w A29) ((0:Int),((IntKind.i64.wrap (((a0_n:Nat):Int) - 1)):Int)) w
def zzfh:LSp:=spB 11
def zzfi:LSp:=spB 4
def zzhB (Q:Value→World→Prop) (b7:Bool) (w:World):Prop:=Q (.bool b7) w
def zzhC (a0 a1:Int) (Q:Value→World→Prop) (b4:Bool) (w:World):Prop:=cnd b4 (Q (.bool false) w) (JoinT (fun (J9:zzfi.S→World→Prop)=>(nz a1 <| cnd ((Int.tmod a0 a1) == 0) ((nz a1 <| J9 (((decide ((IntKind.i64.wrap (Int.tdiv a0 a1))≤1024)):Bool)) w)) (J9 false w))) fun (s10:zzfi.S) w=>zzhB Q s10 w)
def zzcF (a0 a1:Int) (w:World) (Q:Value→World→Prop):Prop:=JoinT (fun (J12:zzfh.S→World→Prop)=>cnd (decide (a1 < 1)) (J12 true w) (J12 (((decide (a0 < a1)):Bool)) w)) fun (s13:zzfh.S) w=>zzhC a0 a1 Q s13 w
def zzkg:Nat→Option LSp:=fun | 6=>some zzfh | 7=>some zzfi | _=>none
theorem zzkT {a0 a1 w Q} (h:zzcF a0 a1 w Q):CV P F.zzcF [zI a0,zI a1] w Q:=CV_of (ann:=zzkg) mixed Tryz.func162 (Eq.mp (by kernel_rfl) h)
def zzcX (a0 a1 a2:Int) (w:World) (Q:Value→World→Prop):Prop:=drw w fun w=>(nng a1 <| (nng a2 <| (nz (IntKind.u64.wrap (1 * 2 ^ min (Int.toNat a2) (IntKind.u64.bits))) <| Q (zI (IntKind.i64.wrap ((Int.tmod (Int.fdiv a0 (2 ^ min (Int.toNat a1) (IntKind.u64.bits))) (IntKind.u64.wrap (1 * 2 ^ min (Int.toNat a2) (IntKind.u64.bits))))))) w)))
def zzkU:Nat→Option LSp:=fun | 6=>some (ordSpec [0,1,2,3,4,5,6,7]) | _=>none
theorem zzlv {a0 a1 a2 w Q} (h:zzcX a0 a1 a2 w Q):CV P F.zzcX [.int .u64 a0,zI a1,zI a2] w Q:=CV_of (ann:=zzkU) mixed Tryz.func163 (Eq.mp (by kernel_rfl) h)
def zzcp:LSp:=spII .i64 2 .i64 3
def zzfj (a0:Option Addr) (a0_n:Nat) (Q:Value→World→Prop) (n6 n7:Int) (w:World) (A9:zzcp.S→World→Prop):Prop:=cnd (decide (n6 < n7)) (drw w fun w=>ix n7 a0_n fun j11=>nn a0 fun a12=>ldI .i64 (a12.add (j11 * 3)) w fun n13=>ldI .i64 ((a12.add (j11 * 3)).add 1) w fun n14=>ldB ((a12.add (j11 * 3)).add 2) w fun b15=>ix n6 a0_n fun j16=>nn a0 fun a17=>ldI .i64 (a17.add (j16 * 3)) w fun n18=>ldI .i64 ((a17.add (j16 * 3)).add 1) w fun n19=>ldB ((a17.add (j16 * 3)).add 2) w fun b20=>ix n6 a0_n fun j21=>nn a0 fun a22=>st1 (zI n13) (a22.add (j21 * 3)) w fun w=>st1 (zI n14) ((a22.add (j21 * 3)).add 1) w fun w=>st1 (.bool b15) ((a22.add (j21 * 3)).add 2) w fun w=>ix n7 a0_n fun j26=>nn a0 fun a27=>st1 (zI n18) (a27.add (j26 * 3)) w fun w=>st1 (zI n19) ((a27.add (j26 * 3)).add 1) w fun w=>st1 (.bool b20) ((a27.add (j26 * 3)).add 2) w fun w=>A9 (((IntKind.i64.wrap (n6 + 1)):Int),((IntKind.i64.wrap (n7 - 1)):Int)) w) (Q (.tuple [].toArray) w)
def zzaN (a0:Option Addr) (a0_n a0_c:Nat) (w:World) (Q:Value→World→Prop):Prop:=LoopT (fun (s31:zzcp.S) w A33=>zzfj a0 a0_n Q s31.1 s31.2 w A33) ((0:Int),((IntKind.i64.wrap (((a0_n:Nat):Int) - 1)):Int)) w
open Go Go.RowKit X
def PureK (f:FuncId) (args:List Value) (v:Value):Prop:=∀ w,CV P f args w fun v' w'=>v' = v∧Below w.heap.size w w'
theorem cmpNaN_plain (a:Int):PureK F.cmp_isNaN_int [.int .i64 a] (.bool false):=by
 intro w
 refine cmp_isNaN_int_cv ?_
 unfold cmp_isNaN_int
 exact ⟨by simp,Below.refl _ _⟩
theorem slNaN_plain (a:Int):PureK F.zzbP [.int .i64 a] (.bool false):=by
 intro w
 refine zzkL ?_
 unfold zzbP
 exact ⟨by simp,Below.refl _ _⟩
theorem less_plain (a b:Int):PureK F.cmp_Less_int [.int .i64 a,.int .i64 b] (.bool (decide (a < b))):=by
 intro w
 refine cmp_Less_int_cv ?_
 unfold cmp_Less_int JoinT
 refine (cmpNaN_plain a w).mono ?_
 rintro _ w1 ⟨rfl,hB⟩
 refine ⟨_,rfl,cnd_i (fun h=>by cases h) fun _=>?_⟩
 unfold cmp_Less_int_j0
 exact ⟨rfl,hB⟩
def lb (xs:List Int) (k:Int):Nat:=(xs.takeWhile fun x=>decide (x < k)).length
theorem lb_eq {k:Int}:∀ {xs:List Int} {p:Nat},p≤xs.length→(∀ (t:Nat) x,t < p→xs[t]? = some x→x < k)→(∀ x,xs[p]? = some x→¬ x < k)→lb xs k = p:=by
 intro xs
 induction xs with
 | nil=>intro p h _ _; simp at h; simp [lb,h]
 | cons y r ih =>
  intro p h h1 h2
  cases p with
  | zero =>
   have:=h2 y rfl
   simp [lb,List.takeWhile_cons,this]
  | succ p =>
   have hy:=h1 0 y (by omega) rfl
   have:=ih (p:=p) (by simpa using h) (fun t x ht hx=>h1 (t + 1) x (by omega) (by simpa using hx)) (fun x hx=>h2 x (by simpa using hx))
   unfold lb at this ⊢
   rw [List.takeWhile_cons,if_pos (by simpa using hy)]
   simp [this]
theorem half {m:Int} (h0:0≤m) (h1:m < 9223372036854775808):IntKind.i64.wrap (Int.fdiv (IntKind.u64.wrap m) (2 ^ min (Int.toNat 1) IntKind.u64.bits)) = m / 2:=by
 obtain ⟨n,rfl⟩:=Int.eq_ofNat_of_zero_le h0
 rw [u64_id (by omega),show Int.fdiv (n:Int) (2 ^ min (Int.toNat 1) IntKind.u64.bits) = ((n / 2 ^ 1:Nat):Int) from shr_u64 n (s:=1) (by omega)]
 rw [W_id (by omega) (by omega)]
 omega
theorem search_t (i:It) {q:Option Addr} {c:Nat} {xs:List Int} (hi:∀ w S,i.h w S→Sl w q (i64s xs)) (hs:xs.Pairwise (· < ·)) (hl:xs.length < 4611686018427387904) (k:Int) :
 Tri P F.zzac [.slice q xs.length c,.int .i64 k] [i] fun v L'=>v = .tuple [.int .i64 (lb xs k:Nat),.bool (decide (xs[lb xs k]? = some k))].toArray∧L' = [i]:=by
 intro w S hS
 refine zzg6 ?_
 unfold zzac
 have H:=Own.start hS
 refine loop_o (fun (st:Int×Int) L=>∃ a b:Nat,st = ((a:Int),(b:Int))∧a≤b∧b≤xs.length∧(∀ (t:Nat) x,t < a→xs[t]? = some x→x < k)∧(∀ (t:Nat) x,b≤t→xs[t]? = some x→¬ x < k)∧L = [i]) (fun (st:Int×Int)=>(st.2 - st.1).toNat) H
  ⟨0,xs.length,rfl,by omega,by omega,fun t x h _=>absurd h (by omega),fun t x h hx=>(by rw [List.getElem?_eq_none h] at hx; cases hx),rfl⟩ ?_
 rintro _ _ wx ⟨a,b,rfl,hab,hb,h1,h2,rfl⟩ H
 unfold zzdY
 dsimp only
 refine cnd_i (fun h=>join_o ?_) fun h=>join_o ?_
 · have h:=of_decide_eq_true h
   rw [W_id (n:=(a:Int) + b) (by omega) (by omega),half (by omega) (by omega)]
   have hm:((a:Int) + b) / 2 = ((a + b) / 2:Nat):=by omega
   rw [hm]
   have hmlt:(a + b) / 2 < xs.length:=by omega
   have hma:a≤(a + b) / 2:=by omega
   have hmb:(a + b) / 2 < b:=by omega
   generalize (a + b) / 2 = m at *
   refine ⟨by omega,⟨by omega,by omega⟩,?_⟩
   rw [Int.toNat_natCast]
   obtain ⟨ad,rfl,hcell⟩:=H.rd (i:=i) .here hi m _ (i64s_get hmlt)
   refine ⟨_,by rw [Nat.mul_one]; exact hcell,?_⟩
   refine call_pa H (tri_plain (less_plain xs[m] k)) fun wx H=>?_
   refine ⟨_,rfl,cnd_i (fun hlt=>?_) fun hlt=>?_⟩
   · have hlt:=of_decide_eq_true hlt
     unfold zzbZ
     rw [W_id (by omega) (by omega)]
     refine ⟨⟨_,⟨m + 1,b,by push_cast; rfl,by omega,hb,fun t x ht hx=>?_,h2,rfl⟩,H⟩,by show ((b:Int) - ((m:Int) + 1)).toNat < ((b:Int) - (a:Int)).toNat; omega⟩
     by_cases e:t = m
     · subst e; rw [List.getElem?_eq_getElem hmlt] at hx; cases hx; exact hlt
     · have htm:t < xs.length:=by omega
       rw [List.getElem?_eq_getElem htm] at hx; cases hx
       have:=List.pairwise_iff_getElem.1 hs t m htm hmlt (by omega)
       omega
   · have hlt:=of_decide_eq_false hlt
     unfold zzbZ
     refine ⟨⟨_,⟨a,m,rfl,by omega,by omega,h1,fun t x ht hx=>?_,rfl⟩,H⟩,by show ((m:Int) - (a:Int)).toNat < ((b:Int) - (a:Int)).toNat; omega⟩
     by_cases e:t = m
     · subst e; rw [List.getElem?_eq_getElem hmlt] at hx; cases hx; exact hlt
     · have htl:t < xs.length:=(List.getElem?_eq_some_iff.1 hx).1
       rw [List.getElem?_eq_getElem htl] at hx; cases hx
       have:=List.pairwise_iff_getElem.1 hs m t hmlt htl (by omega)
       omega
 · have h:=of_decide_eq_false h
   have hab':a = b:=by omega
   subst hab'
   have hlb:=lb_eq (k:=k) hb h1 (fun x hx=>h2 a x (by omega) hx)
   refine cnd_i (fun h=>?_) fun h=>?_
   · have h:=of_decide_eq_true h
     have ha:a < xs.length:=by omega
     refine ⟨⟨by omega,by omega⟩,?_⟩
     rw [Int.toNat_natCast]
     obtain ⟨ad,rfl,hcell⟩:=H.rd (i:=i) .here hi a _ (i64s_get ha)
     refine ⟨_,by rw [Nat.mul_one]; exact hcell,cnd_i (fun e=>?_) fun e=>?_⟩
     · have e:xs[a] = k:=by simpa using e
       unfold zza4
       refine ⟨_,⟨?_,rfl⟩,H⟩
       rw [hlb,List.getElem?_eq_getElem ha,e]; simp
     · have e:xs[a]≠k:=by simpa using e
       refine ⟨⟨by omega,by omega⟩,?_⟩
       rw [Int.toNat_natCast]
       refine ⟨_,by rw [Nat.mul_one]; exact hcell,?_⟩
       refine call_pa H (tri_plain (slNaN_plain xs[a])) fun wx H=>?_
       refine ⟨_,rfl,cnd_i (fun h=>by cases h) fun _=>?_⟩
       unfold zza4
       refine ⟨_,⟨?_,rfl⟩,H⟩
       rw [hlb,List.getElem?_eq_getElem ha]; simp [e]
   · have h:=of_decide_eq_false h
     have ha:a = xs.length:=by omega
     unfold zza4
     refine ⟨_,⟨?_,rfl⟩,H⟩
     rw [hlb,List.getElem?_eq_none (by omega)]; simp
open Go X
abbrev tInt:TypeId:=T.t3
abbrev tInts:TypeId:=T.t22
theorem appInts:appB P tInts tInt 1 8 = true:=by kernel_rfl
theorem zeroInt:zeroC P tInt = some [.int .i64 0]:=by kernel_rfl
abbrev tDevice:TypeId:=T.t77
abbrev tDevices:TypeId:=T.t137
theorem appDevs:appB P tDevices tDevice 2 16 = true:=by kernel_rfl
theorem zeroDev:zeroC P tDevice = some [.int .i64 0,.pointer none]:=by kernel_rfl
abbrev tRoute:TypeId:=T.t44
abbrev tRoutes:TypeId:=T.t140
theorem appRts:appB P tRoutes tRoute 3 24 = true:=by kernel_rfl
theorem zeroRt:zeroC P tRoute = some [.int .i64 0,.int .i64 0,.bool false]:=by kernel_rfl
abbrev tWin:TypeId:=T.t33
abbrev tBytes:TypeId:=T.t123
abbrev tByte:TypeId:=5
theorem appBytes:appB P tBytes tByte 1 1 = true:=by kernel_rfl
theorem zeroByte:zeroC P tByte = some [.int .u8 0]:=by kernel_rfl
abbrev tCmd:TypeId:=T.t26
abbrev tW4:TypeId:=T.t90
abbrev tPart:TypeId:=T.t147
abbrev tBookI:TypeId:=T.t180
abbrev tBookD:TypeId:=T.t139
abbrev tBookR:TypeId:=T.t142
abbrev tOp:TypeId:=T.t24
abbrev tQ:TypeId:=T.t80
abbrev tFd:TypeId:=T.t219
abbrev tFds:TypeId:=T.t215
theorem appFds:appB P tFds tFd 4 32 = true:=by kernel_rfl
abbrev tPl:TypeId:=tInts
theorem appPl:appB P tPl tInt 1 8 = true:=by kernel_rfl
abbrev tRq:TypeId:=T.t120
end Go.Proofs.YtidcijbnbdemeaaGreat
namespace Go.Proofs.YtidcijbnbdemeaaGreat.X
open Go Go.RowKit
variable {P:Program} {w w0:World} {S0:Nat→Prop}
def mkD (d:Nat):Deferred:={ target:=.collected d,args:=#[] }
theorem take1_o {L F:List It} {d:Nat} {ds:List Deferred} {K:World→Prop} (H:Own w0 S0 L w) (hp:Pick L (defI d) F) (k:∀ w',Own w0 S0 F w'→takeX ds w' K):takeX ({ target:=.collected d,args:=#[] } :: ds) w K :=
 take_o (args:=#[]) (K:=fun w'=>takeX ds w' K) H hp k
theorem takes_o {F:List It} {K:World→Prop}:∀ (dl:List Nat) {w:World},Own w0 S0 (dl.map defI ++ F) w→(∀ w',Own w0 S0 F w'→K w')→takeX (dl.map mkD) w K
 | [],w,H,k=>k w H
 | d :: r,w,H,k=>take1_o H .here fun w' H'=>takes_o r H' k
end Go.Proofs.YtidcijbnbdemeaaGreat.X
namespace Go.Proofs.YtidcijbnbdemeaaGreat
open Go Go.RowKit X
noncomputable abbrev EI:El P where
 α:=Int
 enc:=fun n=>[.int .i64 n]
 z:=1
 ta:=tInts
 te:=tInt
 bytes:=8
 zs:=[.int .i64 0]
 hT:=appInts
 hZ:=zeroInt
 hz1:=by simp [Value.oneCell']
 hlen:=fun _=>rfl
 h1:=by intro x u hu; rw [List.mem_singleton.1 hu]; rfl
 hz:=by omega
 hb:=by omega
theorem EI_flat (xs:List Int):EI.flat xs = i64s xs:=by
 unfold El.flat i64s
 show xs.flatMap (fun n=>[Value.int .i64 n]) = _
 induction xs with
 | nil=>rfl
 | cons x xs ih=>rw [List.flatMap_cons,ih]; rfl
noncomputable abbrev nums (p:Option Addr) (c:Nat) (xs:List Int):It:=els EI p c xs
theorem nums_sl {p:Option Addr} {c:Nat} {xs:List Int}:∀ w S,(nums p c xs).h w S→Sl w p (i64s xs):=by
 intro w S h
 rw [← EI_flat]
 exact own_sl w S h
section
variable {α:Type}
def ks (kv:List (Int×α)):List Int:=kv.map (·.1)
def vs (kv:List (Int×α)):List α:=kv.map (·.2)
theorem ks_len (kv:List (Int×α)):(ks kv).length = kv.length:=by simp [ks]
theorem vs_len (kv:List (Int×α)):(vs kv).length = kv.length:=by simp [vs]
def at' (kv:List (Int×α)) (k:Int):Nat:=lb (ks kv) k
def hasK (kv:List (Int×α)) (k:Int):Bool:=decide ((ks kv)[at' kv k]? = some k)
def getK (d:α) (kv:List (Int×α)) (k:Int):α:=if hasK kv k then (vs kv).getD (at' kv k) d else d
def putK (kv:List (Int×α)) (k:Int) (v:α):List (Int×α):=if hasK kv k then kv.set (at' kv k) (k,v) else kv.take (at' kv k) ++ (k,v) :: kv.drop (at' kv k)
def takeK (kv:List (Int×α)) (k:Int):List (Int×α):=if hasK kv k then kv.eraseIdx (at' kv k) else kv
theorem at_lt {kv:List (Int×α)} {k:Int} (h:hasK kv k = true):at' kv k < kv.length:=by
 have:=of_decide_eq_true h
 have:=(List.getElem?_eq_some_iff.1 this).1
 rw [ks_len] at this; exact this
theorem vs_at {d:α} {kv:List (Int×α)} {k:Int} (h:hasK kv k = true):(vs kv)[at' kv k]? = some (getK d kv k):=by
 have hv:at' kv k < (vs kv).length:=by rw [vs_len]; exact at_lt h
 unfold getK
 rw [h,if_pos rfl,List.getD_eq_getElem?_getD,List.getElem?_eq_getElem hv]; rfl
theorem putK_new {kv:List (Int×α)} {k:Int} {v:α} (h:hasK kv k = false):ks (putK kv k v) = ins (ks kv) (at' kv k) k∧vs (putK kv k v) = ins (vs kv) (at' kv k) v:=by
 unfold putK ks vs ins
 rw [h]
 simp
theorem putK_old {kv:List (Int×α)} {k:Int} {v:α} (h:hasK kv k = true):ks (putK kv k v) = ks kv∧vs (putK kv k v) = (vs kv).set (at' kv k) v:=by
 have h1:(ks kv)[at' kv k]? = some k:=of_decide_eq_true h
 unfold putK
 rw [h,if_pos rfl]
 generalize at' kv k = i at *
 constructor
 · have e:ks (kv.set i (k,v)) = (ks kv).set i k:=by simp [ks]
   rw [e]
   obtain ⟨hl,he⟩:=List.getElem?_eq_some_iff.1 h1
   have e2:(ks kv).set i (ks kv)[i] = ks kv:=List.set_getElem_self hl
   rw [he] at e2; exact e2
 · simp [vs]
theorem takeK_old {kv:List (Int×α)} {k:Int} (h:hasK kv k = true):ks (takeK kv k) = (ks kv).eraseIdx (at' kv k)∧vs (takeK kv k) = (vs kv).eraseIdx (at' kv k):=by
 unfold takeK ks vs
 rw [h,if_pos rfl]
 simp only [List.eraseIdx_eq_take_drop_succ,List.map_append,List.map_take,List.map_drop,and_self]
theorem takeK_len (kv:List (Int×α)) (k:Int):(takeK kv k).length≤kv.length:=by
 unfold takeK
 split
 · rw [List.length_eraseIdx]; split <;> omega
 · omega
end
theorem lb_cons (y:Int) (r:List Int) (k:Int):lb (y :: r) k = if y < k then lb r k + 1 else 0:=by
 unfold lb
 rw [List.takeWhile_cons]
 by_cases h:y < k <;> simp [h]
theorem lb_le {k:Int}:∀ (xs:List Int),lb xs k≤xs.length
 | []=>by simp [lb]
 | y :: r=>by rw [lb_cons]; have:=lb_le (k:=k) r; split <;> simp <;> omega
theorem lb_lt {k x:Int}:∀ {xs:List Int} {t:Nat},t < lb xs k→xs[t]? = some x→x < k
 | [],t,h,hx=>by cases hx
 | y :: r,t,h,hx=>by
  rw [lb_cons] at h
  split at h
  · cases t with
    | zero=>cases hx; assumption
    | succ t=>exact lb_lt (xs:=r) (t:=t) (by omega) (by simpa using hx)
  · omega
theorem lb_ge {k x:Int}:∀ {xs:List Int} {t:Nat},xs.Pairwise (· < ·)→lb xs k≤t→xs[t]? = some x→¬ x < k
 | [],t,_,h,hx=>by cases hx
 | y :: r,t,hs,h,hx=>by
  rw [List.pairwise_cons] at hs
  rw [lb_cons] at h
  split at h
  · cases t with
    | zero=>omega
    | succ t=>exact lb_ge (xs:=r) (t:=t) hs.2 (by omega) (by simpa using hx)
  · rename_i hy
    cases t with
    | zero=>cases hx; exact hy
    | succ t =>
     have:=hs.1 x (List.mem_of_getElem? (by simpa using hx))
     omega
theorem lb_gt {k x:Int} {xs:List Int} (hs:xs.Pairwise (· < ·)) (hn:xs[lb xs k]?≠some k) (hx:x∈xs.drop (lb xs k)):k < x:=by
 obtain ⟨t,ht⟩:=List.mem_iff_getElem?.1 hx
 rw [List.getElem?_drop] at ht
 have h1:=lb_ge hs (Nat.le_add_right _ t) ht
 rcases Nat.eq_zero_or_pos t with h | h
 · subst h
   rw [Nat.add_zero] at ht
   have:x≠k:=fun e=>hn (e ▸ ht)
   omega
 · have hl:=(List.getElem?_eq_some_iff.1 ht).1
   have hl2:lb xs k < xs.length:=by omega
   have h2:=lb_ge hs (Nat.le_refl _) (List.getElem?_eq_getElem hl2)
   have h3:=List.pairwise_iff_getElem.1 hs (lb xs k) (lb xs k + t) hl2 hl (by omega)
   rw [(List.getElem?_eq_some_iff.1 ht).2] at h3
   omega
theorem ins_up {k:Int} {xs:List Int} (hs:xs.Pairwise (· < ·)) (hn:xs[lb xs k]?≠some k):(ins xs (lb xs k) k).Pairwise (· < ·):=by
 unfold ins
 rw [List.pairwise_append]
 refine ⟨hs.sublist (List.take_sublist _ _),?_,?_⟩
 · rw [List.pairwise_cons]
   exact ⟨fun x hx=>lb_gt hs hn hx,hs.sublist (List.drop_sublist _ _)⟩
 · intro a ha b hb
   obtain ⟨t,ht⟩:=List.mem_iff_getElem?.1 ha
   rw [List.getElem?_take] at ht
   split at ht
   · rename_i h
     have h1:=lb_lt h ht
     rcases List.mem_cons.1 hb with rfl | hb
     · exact h1
     · have:=lb_gt hs hn hb; omega
   · cases ht
noncomputable abbrev bookRows (E:El P) (tb:TypeId) (b:Nat) (kv:List (Int×E.α)) (a:(Option Addr×Nat)×(Option Addr×Nat)):List It:=[row b [.slice a.1.1 (ks kv).length a.1.2,.slice a.2.1 (vs kv).length a.2.2] tb,nums a.1.1 a.1.2 (ks kv),els E a.2.1 a.2.2 (vs kv)]
def NB:Nat:=4398046511104
noncomputable def bookG (E:El P) (tb:TypeId) (b:Nat) (kv:List (Int×E.α)):It:=exI (fun a:(Option Addr×Nat)×(Option Addr×Nat)=>(ks kv).Pairwise (· < ·)∧kv.length < NB) (bookRows E tb b kv)
section
variable {w w0:World} {S0:Nat→Prop} {E:El P} {tb:TypeId}
theorem zzbr {L F:List It} {b:Nat} {kv:List (Int×E.α)} (H:X.Own w0 S0 L w) (hp:Pick L (bookG E tb b kv) F):∃ p c q c2,(ks kv).Pairwise (· < ·)∧kv.length < NB∧X.Own w0 S0 (row b [.slice p (ks kv).length c,.slice q (vs kv).length c2] tb :: nums p c (ks kv) :: els E q c2 (vs kv) :: F) w:=by
 obtain ⟨⟨⟨p,c⟩,q,c2⟩,⟨h1,h2⟩,H⟩:=ex_open H hp
 exact ⟨p,c,q,c2,h1,h2,H⟩
theorem zzaA {F:List It} {b c c2:Nat} {p q:Option Addr} {kv:List (Int×E.α)} (H:X.Own w0 S0 (row b [.slice p (ks kv).length c,.slice q (vs kv).length c2] tb :: nums p c (ks kv) :: els E q c2 (vs kv) :: F) w) (h1:(ks kv).Pairwise (· < ·)) (h2:kv.length < NB):X.Own w0 S0 (bookG E tb b kv :: F) w :=
 ex_shut (f:=bookRows E tb b kv) ((p,c),(q,c2)) ⟨h1,h2⟩ H
theorem zzjS {L F:List It} {b:Nat} {kv:List (Int×E.α)} (H:X.Own w0 S0 L w) (hp:Pick L (bookG E tb b kv) F):(ks kv).Pairwise (· < ·)∧kv.length < NB:=by
 obtain ⟨p,c,q,c2,h1,h2,_⟩:=zzbr H hp
 exact ⟨h1,h2⟩
theorem zzl2 {F:List It} {b:Nat} (H:X.Own w0 S0 (row b [.slice none 0 0,.slice none 0 0] tb :: F) w):X.Own w0 S0 (bookG E tb b [] :: F) w:=by
 have H:=own_nil (e:=tInt) (size:=1) H
 have H:=own_nil (e:=E.te) (size:=E.z) H
 have H:=H.perm (L1:=[row b [.slice none 0 0,.slice none 0 0] tb,own tInt 1 (.slice none 0 0) 0 [],own E.te E.z (.slice none 0 0) 0 []]) (F:=F) (.cons (.there (.there .here)) (.cons (.there .here) (.cons .here .nil)))
 exact zzaA (kv:=[]) H List.Pairwise.nil (by unfold NB; simp)
theorem els_at {L F:List It} {q:Option Addr} {c j:Nat} {xs:List E.α} {x:E.α} (H:X.Own w0 S0 L w) (hp:Pick L (els E q c xs) F) (hx:xs[j]? = some x):∃ d,q = some ⟨d,0,none⟩∧∀ i v,(E.enc x)[i]? = some v→w.cell? ⟨d,j * E.z + i,none⟩ = some v:=by
 have hne:xs≠[]:=by intro e; rw [e] at hx; cases hx
 obtain ⟨d,rest,rfl,hlen,hle,hmx,H2⟩:=els_open H hp hne
 refine ⟨d,rfl,fun i v hv=>?_⟩
 have h1:=El.flat_get hx hv
 rw [(H2.row .here).cell,List.getElem?_append_left (List.getElem?_eq_some_iff.1 h1).1]; exact h1
theorem els_put {F:List It} {d c j:Nat} {xs:List E.α} {y:E.α} {rest:List Value} (H:X.Own w0 S0 (row d (splice (E.flat xs ++ rest) (j * E.z) (E.enc y)) E.te :: F) w) (hlen:(E.flat xs ++ rest).length = c * E.z) (hle:xs.length≤c) (hmx:c≤maxLen) (hj:j < xs.length) :
 X.Own w0 S0 (els E (some ⟨d,0,none⟩) c (xs.set j y) :: F) w:=by
 have m:(j + 1) * E.z≤xs.length * E.z:=Nat.mul_le_mul_right _ hj
 have m0:j * E.z + E.z = (j + 1) * E.z:=by rw [Nat.add_mul,Nat.one_mul]
 have hxl:=El.flat_len (E:=E) xs
 have hel:=E.hlen y
 have:=els_shut (c:=c) (n:=xs.length) (xs:=xs.set j y) H (by rw [List.length_set]) ?_ hle hmx (by rw [splice_len (by rw [List.length_append] at *; omega),hlen])
 · exact this
 · rw [List.length_set,← El.flat_set hj]
   unfold splice
   rw [List.take_append_of_le_length (l₁:=E.flat xs) (by omega),hel,List.drop_append_of_le_length (by omega)]
   simp only [List.append_assoc]
   rw [← List.append_assoc,← List.append_assoc,← List.append_assoc,List.append_assoc ((E.flat xs).take (j * E.z))]
   exact List.take_left' (by simp only [List.length_append,List.length_take,List.length_drop,hxl,hel]; omega)
theorem splice1 {L:List Value} {i:Nat} {a:Value} (h:i < L.length):L.set i a = splice L i [a]:=by
 unfold splice
 rw [List.set_eq_take_append_cons_drop,if_pos h]; simp
theorem splice2 {L:List Value} {i:Nat} {a b:Value} (h:i + 1 < L.length):(L.set i a).set (i + 1) b = splice L i [a,b]:=by
 unfold splice
 apply List.ext_getElem?
 intro j
 simp only [List.getElem?_set,List.length_set,List.append_assoc,List.getElem?_append,List.length_take,List.getElem?_take,List.length_cons,List.length_nil,List.getElem?_drop]
 by_cases h1:j < i
 · rw [if_neg (by omega),if_neg (by omega),if_pos (by omega),if_pos h1]
 · by_cases h2:j = i
   · subst h2
     rw [if_neg (by omega),if_pos rfl,if_pos (by omega),if_neg (by omega),if_pos (by omega)]
     simp [show min j L.length = j by omega]
   · by_cases h3:j = i + 1
     · subst h3
       rw [if_pos rfl,if_pos (by omega),if_neg (by omega),if_pos (by omega)]
       simp [show min i L.length = i by omega]
     · rw [if_neg (by omega),if_neg (by omega),if_neg (by omega),if_neg (by omega)]
       congr 1; omega
theorem splice3 {L:List Value} {i:Nat} {a b c:Value} (h:i + 2 < L.length):((L.set i a).set (i + 1) b).set (i + 2) c = splice L i [a,b,c]:=by
 unfold splice
 apply List.ext_getElem?
 intro j
 simp only [List.getElem?_set,List.length_set,List.append_assoc,List.getElem?_append,List.length_take,List.getElem?_take,List.length_cons,List.length_nil,List.getElem?_drop]
 by_cases h1:j < i
 · rw [if_neg (by omega),if_neg (by omega),if_neg (by omega),if_pos (by omega),if_pos h1]
 · by_cases h2:j = i
   · subst h2
     rw [if_neg (by omega),if_neg (by omega),if_pos rfl,if_pos (by omega),if_neg (by omega),if_pos (by omega)]
     simp [show min j L.length = j by omega]
   · by_cases h3:j = i + 1
     · subst h3
       rw [if_neg (by omega),if_pos rfl,if_pos (by omega),if_neg (by omega),if_pos (by omega)]
       simp [show min i L.length = i by omega]
     · by_cases h4:j = i + 2
       · subst h4
         rw [if_pos rfl,if_pos (by omega),if_neg (by omega),if_pos (by omega)]
         simp [show min i L.length = i by omega]
       · rw [if_neg (by omega),if_neg (by omega),if_neg (by omega),if_neg (by omega),if_neg (by omega)]
         congr 1; omega
end
def bptr (b:Nat):Value:=.pointer (some ⟨b,0,none⟩)
theorem ov_i:ovB P F.zze5:=by
 refine ⟨_,Tryz.func124,⟨by kernel_rfl,by kernel_rfl⟩,by kernel_rfl,Extern.SlicesOverlaps.overlaps #[EI.ta,EI.ta] #[T.t4],by kernel_rfl,?_⟩
 intro w vb o d o' la ca lb cb cur cv tA tB hne hrd hrv hcur
 obtain ⟨hu,i,z,hi,hz,h3,h4,h5⟩:=appB_out (El.hT EI)
 have hrd':=hrd
 have hrv':=hrv
 unfold Row at hrd' hrv'
 exact Lib.run_overlaps_apart (P:=P) w EI.ta T.t4 EI.te hu 1 (fun w=>by simp only [sizeOf,typeInfo,hi,h3]; rfl) ⟨vb,o,none⟩ ⟨d,o',none⟩ la ca lb cb (fun e=>hne e.symm) tB tA cv.length cur.length
  (by simp [World.shape?,hrv']) (by simp [World.shape?,hrd']) (by intro e; exact hcur (List.length_eq_zero_iff.1 e)) (hrv.frozen o) (hrv.frozen cv.length)
theorem insert_i {p:Option Addr} {c:Nat} {xs:List Int} {i vb:Nat} {x:Int} {tv:TypeId} (hi:i≤xs.length) (hl:xs.length < NB) :
 Tri P F.zzad [.slice p xs.length c,.int .i64 (i:Int),.slice (some ⟨vb,0,none⟩) 1 1] [els EI p c xs,row vb (EI.enc x) tv] fun v L'=>∃ p' c',v = .slice p' (ins xs i x).length c'∧L' = [els EI p' c' (ins xs i x)]:=by
 intro w S hS
 refine zziC ?_
 unfold NB at hl
 rw [show ∀ Q,zzad p xs.length c (i:Int) (some ⟨vb,0,none⟩) 1 1 w Q = insertG EI T.t3 F.zze5 F.zzee p xs.length c (i:Int) (some ⟨vb,0,none⟩) 1 1 w Q from fun _=>rfl]
 exact insertG_o (E:=EI) (ti:=T.t3) ov_i (by kernel_rfl) hi (by show (xs.length + 1) * 8≤_; omega) (by unfold maxLen; omega) (Own.start hS) fun p' c' w' H=>⟨_,⟨p',c',rfl,rfl⟩,H⟩
theorem delete_i {p:Option Addr} {c:Nat} {xs:List Int} {i:Nat} (hi:i < xs.length):Tri P F.zzax [.slice p xs.length c,.int .i64 (i:Int),.int .i64 (i + 1:Int)] [els EI p c xs] fun v L'=>∃ c',v = .slice p (xs.eraseIdx i).length c'∧L' = [els EI p c' (xs.eraseIdx i)]:=by
 intro w S hS
 refine zziL ?_
 rw [show ∀ Q,zzax p xs.length c (i:Int) (i + 1:Int) w Q = deleteG EI T.t0 p xs.length c (i:Int) (i + 1:Int) w Q from fun _=>rfl]
 exact deleteG_o (E:=EI) (t0:=T.t0) hi (Own.start hS) fun c' w' H=>⟨_,⟨c',rfl,rfl⟩,H⟩
theorem clone_i (i:It) {p:Option Addr} {c:Nat} {xs:List Int} (hi:∀ w S,i.h w S→Sl w p (EI.flat xs)) (hl:xs.length < NB) :
 Tri P F.zzar [.slice p xs.length c] [i] fun v L'=>∃ p' c',v = .slice p' xs.length c'∧L' = [els EI p' c' xs,i]:=by
 intro w S hS
 refine zzi7 ?_
 unfold NB at hl
 rw [show ∀ Q,zzar p xs.length c w Q = cloneG EI p xs.length c w Q from fun _=>rfl]
 exact cloneG_o (E:=EI) (Own.start hS) .here hi (by show xs.length * 8≤_; omega) (by unfold maxLen; omega) fun p' c' w' H=>⟨_,⟨p',c',rfl,rfl⟩,H⟩
theorem new_i:Tri P F.zzcy [] [] fun v L'=>∃ b,v = bptr b∧L' = [bookG EI tBookI b []]:=by
 intro w S hS
 refine zzkF ?_
 unfold zzcy
 have H:=Own.start hS
 refine alc_o H fun b1 wx H=>?_
 exact ⟨_,⟨b1,rfl,rfl⟩,zzl2 H⟩
theorem get_i (b:Nat) (kv:List (Int×Int)) (k:Int):Tri P F.zzaL [bptr b,.int .i64 k] [bookG EI tBookI b kv] fun v L'=>v = .tuple [.int .i64 (getK 0 kv k),.bool (hasK kv k)].toArray∧L' = [bookG EI tBookI b kv]:=by
 intro w S hS
 refine zziw ?_
 unfold zzaL
 have H:=Own.start hS
 obtain ⟨p,c,q,c2,h1,h2,H⟩:=zzbr H (by repeat (first | exact Pick.here | apply Pick.there))
 dsimp only [nn]
 repeat (first | refine lIa H ?_ | refine lLa H ?_ | refine lBa H ?_ | refine lPa H ?_ | refine lSa H ?_)
 refine call_pa H (search_t (nums p c (ks kv)) nums_sl h1 (by rw [ks_len]; unfold NB at h2; omega) k) fun wx H=>?_
 refine ⟨_,_,rfl,cnd_i (fun h=>?_) fun h=>?_⟩
 · have h:hasK kv k = false:=by rw [Bool.not_eq_true'] at h; exact h
   have eg:getK 0 kv k = 0:=by unfold getK; rw [h]; rfl
   exact ⟨_,⟨by rw [eg,h],rfl⟩,zzaA H h1 h2⟩
 · have h:hasK kv k = true:=by rw [Bool.not_eq_false'] at h; exact h
   have hlt:=at_lt h
   have hv:=vs_at (d:=0) h
   repeat (first | refine lIa H ?_ | refine lLa H ?_ | refine lBa H ?_ | refine lPa H ?_ | refine lSa H ?_)
   refine ⟨⟨by omega,by rw [vs_len]; show ((at' kv k:Nat):Int) < _; exact_mod_cast hlt⟩,?_⟩
   rw [Int.toNat_natCast]
   obtain ⟨d,rfl,hc⟩:=els_at (q:=q) (c:=c2) H (by repeat (first | exact Pick.here | apply Pick.there)) hv
   dsimp only [nn]
   have hc2:∀ i v,(EI.enc (getK 0 kv k))[i]? = some v→wx.cell? (((⟨d,0,none⟩:Addr).add (at' kv k * 1)).add i) = some v:=by
    intro i v hv
    rw [add_lit,add_lit,Nat.zero_add]; exact hc i v hv
   have hc0:∀ v,(EI.enc (getK 0 kv k))[0]? = some v→wx.cell? ((⟨d,0,none⟩:Addr).add (at' kv k * 1)) = some v:=by
    intro v hv
    rw [add_lit,Nat.zero_add]; exact hc 0 v hv
   refine ⟨_,hc0 _ rfl,?_⟩
   exact ⟨_,⟨by rw [h],rfl⟩,zzaA H h1 h2⟩
theorem put_i (b:Nat) (kv:List (Int×Int)) (k:Int) (v:Int) (hlen:kv.length + 1 < NB):Tri P F.zza7 [bptr b,.int .i64 k,.int .i64 (v)] [bookG EI tBookI b kv] fun r L'=>r = .bool (!hasK kv k)∧L' = [bookG EI tBookI b (putK kv k v)]:=by
 intro w S hS
 refine zziz ?_
 unfold zza7
 have H:=Own.start hS
 obtain ⟨p,c,q,c2,h1,h2,H⟩:=zzbr H (by repeat (first | exact Pick.here | apply Pick.there))
 dsimp only [nn]
 repeat (first | refine lIa H ?_ | refine lLa H ?_ | refine lBa H ?_ | refine lPa H ?_ | refine lSa H ?_)
 refine call_pa H (search_t (nums p c (ks kv)) nums_sl h1 (by rw [ks_len]; unfold NB at h2; omega) k) fun wx H=>?_
 have hile:at' kv k≤kv.length:=by have:=lb_le (k:=k) (ks kv); rw [ks_len] at this; exact this
 refine ⟨_,_,rfl,cnd_i (fun h=>?_) fun h=>join_o ?_⟩
 · have h:hasK kv k = true:=h
   obtain ⟨e1,e2⟩:=putK_old (v:=v) h
   have hlt:=at_lt h
   repeat (first | refine lIa H ?_ | refine lLa H ?_ | refine lBa H ?_ | refine lPa H ?_ | refine lSa H ?_)
   refine ⟨⟨by omega,by rw [vs_len]; show ((at' kv k:Nat):Int) < _; exact_mod_cast hlt⟩,?_⟩
   rw [Int.toNat_natCast,show lb (ks kv) k = at' kv k from rfl]
   have hlv:at' kv k < (vs kv).length:=by rw [vs_len]; exact hlt
   have H:=H.perm (L1:=[els EI q c2 (vs kv)]) (by repeat (first | exact Cut.nil | (apply Cut.cons; (repeat (first | exact Pick.here | apply Pick.there)))))
   simp only [List.cons_append,List.nil_append] at H
   obtain ⟨d,rest,rfl,hlen2,hle,hmx,H⟩:=els_open H .here (by intro e; rw [e] at hlv; simp at hlv)
   dsimp only [nn]
   show st1 _ _ _ _
   have hfit:at' kv k * 1 + 0 < (EI.flat (vs kv) ++ rest).length:=by
    rw [List.length_append,El.flat_len]
    have:(at' kv k + 1) * 1≤(vs kv).length * 1:=Nat.mul_le_mul_right _ hlv
    show _ < (vs kv).length * 1 + _
    omega
   rw [add_lit,Nat.zero_add]
   refine st1_o H .here (by show at' kv k * 1 < _; omega) fun wx H=>?_
   rw [splice1 (L:=EI.flat (vs kv) ++ rest) (i:=at' kv k * 1) (by omega)] at H
   have H:=els_put (E:=EI) (xs:=vs kv) (j:=at' kv k) (y:=v) H hlen2 hle hmx hlv
   rw [h]
   refine ⟨_,⟨rfl,rfl⟩,?_⟩
   have hl:(putK kv k v).length = kv.length:=by unfold putK; rw [h,if_pos rfl,List.length_set]
   have H:=H.drop (L1:=[row b [.slice p (ks kv).length c,.slice (some ⟨d,0,none⟩) (vs kv).length c2] tBookI,nums p c (ks kv),els EI (some ⟨d,0,none⟩) c2 ((vs kv).set (at' kv k) v)]) (by repeat (first | exact Cut.nil | (apply Cut.cons; (repeat (first | exact Pick.here | apply Pick.there)))))
   refine zzaA (p:=p) (c:=c) (q:=some ⟨d,0,none⟩) (c2:=c2) ?_ (by rw [e1]; exact h1) (by omega)
   rw [e1,e2]
   rw [List.length_set]
   exact H
 · have h:hasK kv k = false:=h
   obtain ⟨e1,e2⟩:=putK_new (v:=v) h
   have hn:(ks kv)[lb (ks kv) k]?≠some k:=of_decide_eq_false h
   have hl:(putK kv k v).length = kv.length + 1:=by
    rw [← ks_len,e1,ins_len (by rw [ks_len]; exact hile),ks_len]
   have fin:∀ (p1 q1:Option Addr) (c3 c4:Nat) (wx:World),X.Own w S [row b [.slice p1 (ins (ks kv) (at' kv k) k).length c3,.slice q1 (ins (vs kv) (at' kv k) v).length c4] tBookI,nums p1 c3 (ins (ks kv) (at' kv k) k),els EI q1 c4 (ins (vs kv) (at' kv k) v)] wx →
    zzdf (fun r w'=>∃ L',(r = .bool (!hasK kv k)∧L' = [bookG EI tBookI b (putK kv k v)])∧X.Own w S L' w') wx:=by
    intro p1 q1 c3 c4 wx H
    unfold zzdf
    rw [h]
    refine ⟨_,⟨rfl,rfl⟩,?_⟩
    rw [← e1,← e2] at H
    exact zzaA H (by rw [e1]; exact ins_up h1 hn) (by omega)
   have hk:at' kv k≤(ks kv).length:=by rw [ks_len]; exact hile
   have hv:at' kv k≤(vs kv).length:=by rw [vs_len]; exact hile
   refine drw_o H fun wx H=>?_
   repeat (first | refine lIa H ?_ | refine lLa H ?_ | refine lBa H ?_ | refine lPa H ?_ | refine lSa H ?_)
   refine ⟨alc_o H fun b30 wx H=>⟨?_,?_,?_,alc_o H fun b63 wx H=>⟨?_,?_,?_⟩⟩,alc_o H fun b88 wx H=>⟨?_,?_,alc_o H fun b96 wx H=>⟨?_,?_,?_⟩⟩⟩
   · repeat (first | refine lIa H ?_ | refine lLa H ?_ | refine lBa H ?_ | refine lPa H ?_ | refine lSa H ?_)
     rfl
   · repeat (first | refine lIa H ?_ | refine lLa H ?_ | refine lBa H ?_ | refine lPa H ?_ | refine lSa H ?_)
     rfl
   · skip
     refine call_oa H (insert_i (p:=p) (c:=c) (xs:=ks kv) (vb:=b30) (x:=k) hk (by rw [ks_len]; unfold NB at *; omega)) fun vx L' wx hq H=>?_
     obtain ⟨p1,c3,rfl,rfl⟩:=hq
     simp only [List.cons_append,List.nil_append] at H
     refine ⟨_,_,_,rfl,?_,alc_o H fun b46 wx H=>⟨?_,?_,?_⟩⟩
     · repeat (first | refine lIa H ?_ | refine lLa H ?_ | refine lBa H ?_ | refine lPa H ?_ | refine lSa H ?_)
       rfl
     · repeat (first | refine lIa H ?_ | refine lLa H ?_ | refine lBa H ?_ | refine lPa H ?_ | refine lSa H ?_)
       rfl
     · repeat (first | refine lIa H ?_ | refine lLa H ?_ | refine lBa H ?_ | refine lPa H ?_ | refine lSa H ?_)
       rfl
     refine call_oa H (insert_i (p:=q) (c:=c2) (xs:=vs kv) (vb:=b46) (x:=v) hv (by rw [vs_len]; unfold NB at *; omega)) fun vx L' wx hq H=>?_
     obtain ⟨q1,c4,rfl,rfl⟩:=hq
     simp only [List.cons_append,List.nil_append] at H
     refine ⟨_,_,_,rfl,?_⟩
     dsimp only [nn]
     iterate 2 refine sta H fun wx H=>?_
     simp only [List.set_cons_zero,List.set_cons_succ] at H
     exact fin p1 q1 c3 c4 _ (H.dp)
   · repeat (first | refine lIa H ?_ | refine lLa H ?_ | refine lBa H ?_ | refine lPa H ?_ | refine lSa H ?_)
     rfl
   · repeat (first | refine lIa H ?_ | refine lLa H ?_ | refine lBa H ?_ | refine lPa H ?_ | refine lSa H ?_)
     rfl
   · skip
     refine call_oa H (insert_i (p:=p) (c:=c) (xs:=ks kv) (vb:=b30) (x:=k) hk (by rw [ks_len]; unfold NB at *; omega)) fun vx L' wx hq H=>?_
     obtain ⟨p1,c3,rfl,rfl⟩:=hq
     simp only [List.cons_append,List.nil_append] at H
     refine ⟨_,_,_,rfl,?_,?_⟩
     · repeat (first | refine lIa H ?_ | refine lLa H ?_ | refine lBa H ?_ | refine lPa H ?_ | refine lSa H ?_)
       rfl
     refine call_oa H (insert_i (p:=q) (c:=c2) (xs:=vs kv) (vb:=b63) (x:=v) hv (by rw [vs_len]; unfold NB at *; omega)) fun vx L' wx hq H=>?_
     obtain ⟨q1,c4,rfl,rfl⟩:=hq
     simp only [List.cons_append,List.nil_append] at H
     refine ⟨_,_,_,rfl,?_⟩
     dsimp only [nn]
     iterate 2 refine sta H fun wx H=>?_
     simp only [List.set_cons_zero,List.set_cons_succ] at H
     exact fin p1 q1 c3 c4 _ (H.dp)
   · repeat (first | refine lIa H ?_ | refine lLa H ?_ | refine lBa H ?_ | refine lPa H ?_ | refine lSa H ?_)
     rfl
   · repeat (first | refine lIa H ?_ | refine lLa H ?_ | refine lBa H ?_ | refine lPa H ?_ | refine lSa H ?_)
     rfl
   · repeat (first | refine lIa H ?_ | refine lLa H ?_ | refine lBa H ?_ | refine lPa H ?_ | refine lSa H ?_)
     rfl
   · repeat (first | refine lIa H ?_ | refine lLa H ?_ | refine lBa H ?_ | refine lPa H ?_ | refine lSa H ?_)
     rfl
   · skip
     refine call_oa H (insert_i (p:=p) (c:=c) (xs:=ks kv) (vb:=b96) (x:=k) hk (by rw [ks_len]; unfold NB at *; omega)) fun vx L' wx hq H=>?_
     obtain ⟨p1,c3,rfl,rfl⟩:=hq
     simp only [List.cons_append,List.nil_append] at H
     refine ⟨_,_,_,rfl,?_,?_⟩
     · repeat (first | refine lIa H ?_ | refine lLa H ?_ | refine lBa H ?_ | refine lPa H ?_ | refine lSa H ?_)
       rfl
     refine call_oa H (insert_i (p:=q) (c:=c2) (xs:=vs kv) (vb:=b88) (x:=v) hv (by rw [vs_len]; unfold NB at *; omega)) fun vx L' wx hq H=>?_
     obtain ⟨q1,c4,rfl,rfl⟩:=hq
     simp only [List.cons_append,List.nil_append] at H
     refine ⟨_,_,_,rfl,?_⟩
     dsimp only [nn]
     iterate 2 refine sta H fun wx H=>?_
     simp only [List.set_cons_zero,List.set_cons_succ] at H
     exact fin p1 q1 c3 c4 _ (H.dp)
theorem take_i (b:Nat) (kv:List (Int×Int)) (k:Int):Tri P F.zzaY [bptr b,.int .i64 k] [bookG EI tBookI b kv] fun r L'=>r = .tuple [.int .i64 (getK 0 kv k),.bool (hasK kv k)].toArray∧L' = [bookG EI tBookI b (takeK kv k)]:=by
 intro w S hS
 refine zzia ?_
 unfold zzaY
 have H:=Own.start hS
 refine call_pa H (get_i b kv k) fun wx H=>?_
 refine ⟨_,_,rfl,join_o (cnd_i (fun h=>?_) fun h=>?_)⟩
 · obtain ⟨e1,e2⟩:=takeK_old h
   have hlt:=at_lt h
   obtain ⟨p,c,q,c2,h1,h2,H⟩:=zzbr H (by repeat (first | exact Pick.here | apply Pick.there))
   dsimp only [nn]
   repeat (first | refine lIa H ?_ | refine lLa H ?_ | refine lBa H ?_ | refine lPa H ?_ | refine lSa H ?_)
   refine call_pa H (search_t (nums p c (ks kv)) nums_sl h1 (by rw [ks_len]; unfold NB at h2; omega) k) fun wx H=>?_
   refine ⟨_,_,rfl,?_⟩
   refine drw_o H fun wx H=>?_
   repeat (first | refine lIa H ?_ | refine lLa H ?_ | refine lBa H ?_ | refine lPa H ?_ | refine lSa H ?_)
   have ew:IntKind.i64.wrap (((lb (ks kv) k:Nat):Int) + 1) = ((at' kv k:Nat):Int) + 1:=by
    unfold NB at h2
    rw [show lb (ks kv) k = at' kv k from rfl,W_id (by omega) (by omega)]
   rw [ew]
   refine call_oa H (delete_i (p:=p) (c:=c) (xs:=ks kv) (i:=at' kv k) (by rw [ks_len]; exact hlt)) fun vx L' wx hq H=>?_
   obtain ⟨c3,rfl,rfl⟩:=hq
   simp only [List.cons_append,List.nil_append] at H
   refine ⟨_,_,_,rfl,?_,?_⟩
   · repeat (first | refine lIa H ?_ | refine lLa H ?_ | refine lBa H ?_ | refine lPa H ?_ | refine lSa H ?_)
     rfl
   refine call_oa H (delete_i (p:=q) (c:=c2) (xs:=vs kv) (i:=at' kv k) (by rw [vs_len]; exact hlt)) fun vx L' wx hq H=>?_
   obtain ⟨c4,rfl,rfl⟩:=hq
   simp only [List.cons_append,List.nil_append] at H
   refine ⟨_,_,_,rfl,?_⟩
   iterate 2 refine sta H fun wx H=>?_
   simp only [List.set_cons_zero,List.set_cons_succ] at H
   unfold zzc5
   refine ⟨_,⟨rfl,rfl⟩,?_⟩
   have H:=H.drop (L1:=[row b [.slice p ((ks kv).eraseIdx (at' kv k)).length c3,.slice q ((vs kv).eraseIdx (at' kv k)).length c4] tBookI,nums p c3 ((ks kv).eraseIdx (at' kv k)),els EI q c4 ((vs kv).eraseIdx (at' kv k))]) (by repeat (first | exact Cut.nil | (apply Cut.cons; (repeat (first | exact Pick.here | apply Pick.there)))))
   rw [← e1,← e2] at H
   have hl:=takeK_len kv k
   exact zzaA H (by rw [e1]; exact h1.sublist (List.eraseIdx_sublist _ _)) (by omega)
 · unfold zzc5
   refine ⟨_,⟨rfl,rfl⟩,?_⟩
   have:takeK kv k = kv:=by unfold takeK; rw [h]; rfl
   rw [this]
   exact H.dp
theorem bcopy_i (b:Nat) (kv:List (Int×Int)):Tri P F.zzaX [bptr b] [bookG EI tBookI b kv] fun r L'=>∃ b',r = bptr b'∧L' = [bookG EI tBookI b' kv,bookG EI tBookI b kv]:=by
 intro w S hS
 refine zzh5 ?_
 unfold zzaX
 have H:=Own.start hS
 obtain ⟨p,c,q,c2,h1,h2,H⟩:=zzbr H .here
 refine drw_o H fun wx H=>?_
 dsimp only [nn]
 repeat (first | refine lIa H ?_ | refine lLa H ?_ | refine lBa H ?_ | refine lPa H ?_ | refine lSa H ?_)
 refine call_oa H (clone_i (nums p c (ks kv)) own_sl (by rw [ks_len]; omega)) fun vx L' wx hq H=>?_
 obtain ⟨p1,c3,rfl,rfl⟩:=hq
 simp only [List.cons_append,List.nil_append] at H
 refine ⟨_,_,_,rfl,?_,?_⟩
 · repeat (first | refine lIa H ?_ | refine lLa H ?_ | refine lBa H ?_ | refine lPa H ?_ | refine lSa H ?_)
   rfl
 refine call_oa H (clone_i (els EI q c2 (vs kv)) own_slZ (by rw [vs_len]; omega)) fun vx L' wx hq H=>?_
 obtain ⟨q1,c4,rfl,rfl⟩:=hq
 simp only [List.cons_append,List.nil_append] at H
 refine ⟨_,_,_,rfl,alc_o H fun b24 wx H=>?_⟩
 refine ⟨_,⟨b24,rfl,rfl⟩,?_⟩
 have H:=H.drop (L1:=[row b24 [.slice p1 (ks kv).length c3,.slice q1 (vs kv).length c4] tBookI,nums p1 c3 (ks kv),els EI q1 c4 (vs kv),row b [.slice p (ks kv).length c,.slice q (vs kv).length c2] tBookI,nums p c (ks kv),els EI q c2 (vs kv)]) (by repeat (first | exact Cut.nil | (apply Cut.cons; (repeat (first | exact Pick.here | apply Pick.there)))))
 have H:=zzaA H h1 h2
 have H:=own_comm (A:=[bookG EI tBookI b24 kv]) H
 exact own_comm (A:=[bookG EI tBookI b kv]) (B:=[bookG EI tBookI b24 kv]) (zzaA H h1 h2)
structure RtE where
 num:Int
 coll:Int
 val:Bool
deriving DecidableEq
noncomputable abbrev ER:El P where
 α:=RtE
 enc:=fun x=>[.int .i64 x.num,.int .i64 x.coll,.bool x.val]
 z:=3
 ta:=tRoutes
 te:=tRoute
 bytes:=24
 zs:=[.int .i64 0,.int .i64 0,.bool false]
 hT:=appRts
 hZ:=zeroRt
 hz1:=by simp [Value.oneCell']
 hlen:=fun _=>rfl
 h1:=by intro x u hu; simp only [List.mem_cons,List.not_mem_nil,or_false] at hu; rcases hu with rfl | rfl | rfl <;> rfl
 hz:=by omega
 hb:=by omega
def rt0:RtE:=⟨0,0,false⟩
theorem ov_r:ovB P F.zzda:=by
 refine ⟨_,Tryz.func146,⟨by kernel_rfl,by kernel_rfl⟩,by kernel_rfl,Extern.SlicesOverlaps.overlaps #[ER.ta,ER.ta] #[T.t4],by kernel_rfl,?_⟩
 intro w vb o d o' la ca lb cb cur cv tA tB hne hrd hrv hcur
 obtain ⟨hu,i,z,hi,hz,h3,h4,h5⟩:=appB_out (El.hT ER)
 have hrd':=hrd
 have hrv':=hrv
 unfold Row at hrd' hrv'
 exact Lib.run_overlaps_apart (P:=P) w ER.ta T.t4 ER.te hu 3 (fun w=>by simp only [sizeOf,typeInfo,hi,h3]; rfl) ⟨vb,o,none⟩ ⟨d,o',none⟩ la ca lb cb (fun e=>hne e.symm) tB tA cv.length cur.length
  (by simp [World.shape?,hrv']) (by simp [World.shape?,hrd']) (by intro e; exact hcur (List.length_eq_zero_iff.1 e)) (hrv.frozen o) (hrv.frozen cv.length)
theorem insert_r {p:Option Addr} {c:Nat} {xs:List RtE} {i vb:Nat} {x:RtE} {tv:TypeId} (hi:i≤xs.length) (hl:xs.length < NB) :
 Tri P F.zzaf [.slice p xs.length c,.int .i64 (i:Int),.slice (some ⟨vb,0,none⟩) 1 1] [els ER p c xs,row vb (ER.enc x) tv] fun v L'=>∃ p' c',v = .slice p' (ins xs i x).length c'∧L' = [els ER p' c' (ins xs i x)]:=by
 intro w S hS
 refine zzfp ?_
 unfold NB at hl
 rw [show ∀ Q,zzaf p xs.length c (i:Int) (some ⟨vb,0,none⟩) 1 1 w Q = insertG ER T.t3 F.zzda F.zzcD p xs.length c (i:Int) (some ⟨vb,0,none⟩) 1 1 w Q from fun _=>rfl]
 exact insertG_o (E:=ER) (ti:=T.t3) ov_r (by kernel_rfl) hi (by show (xs.length + 1) * 24≤_; omega) (by unfold maxLen; omega) (Own.start hS) fun p' c' w' H=>⟨_,⟨p',c',rfl,rfl⟩,H⟩
theorem delete_r {p:Option Addr} {c:Nat} {xs:List RtE} {i:Nat} (hi:i < xs.length):Tri P F.zzaq [.slice p xs.length c,.int .i64 (i:Int),.int .i64 (i + 1:Int)] [els ER p c xs] fun v L'=>∃ c',v = .slice p (xs.eraseIdx i).length c'∧L' = [els ER p c' (xs.eraseIdx i)]:=by
 intro w S hS
 refine zzfq ?_
 rw [show ∀ Q,zzaq p xs.length c (i:Int) (i + 1:Int) w Q = deleteG ER T.t0 p xs.length c (i:Int) (i + 1:Int) w Q from fun _=>rfl]
 exact deleteG_o (E:=ER) (t0:=T.t0) hi (Own.start hS) fun c' w' H=>⟨_,⟨c',rfl,rfl⟩,H⟩
theorem clone_r (i:It) {p:Option Addr} {c:Nat} {xs:List RtE} (hi:∀ w S,i.h w S→Sl w p (ER.flat xs)) (hl:xs.length < NB) :
 Tri P F.zzak [.slice p xs.length c] [i] fun v L'=>∃ p' c',v = .slice p' xs.length c'∧L' = [els ER p' c' xs,i]:=by
 intro w S hS
 refine zzfI ?_
 unfold NB at hl
 rw [show ∀ Q,zzak p xs.length c w Q = cloneG ER p xs.length c w Q from fun _=>rfl]
 exact cloneG_o (E:=ER) (Own.start hS) .here hi (by show xs.length * 24≤_; omega) (by unfold maxLen; omega) fun p' c' w' H=>⟨_,⟨p',c',rfl,rfl⟩,H⟩
theorem new_r:Tri P F.zza6 [] [] fun v L'=>∃ b,v = bptr b∧L' = [bookG ER tBookR b []]:=by
 intro w S hS
 refine zziy ?_
 unfold zza6
 have H:=Own.start hS
 refine alc_o H fun b1 wx H=>?_
 exact ⟨_,⟨b1,rfl,rfl⟩,zzl2 H⟩
theorem has_r (b:Nat) (kv:List (Int×RtE)) (k:Int):Tri P F.zzaF [bptr b,.int .i64 k] [bookG ER tBookR b kv] fun v L'=>v = .bool (hasK kv k)∧L' = [bookG ER tBookR b kv]:=by
 intro w S hS
 refine zzg8 ?_
 unfold zzaF
 have H:=Own.start hS
 obtain ⟨p,c,q,c2,h1,h2,H⟩:=zzbr H .here
 dsimp only [nn]
 repeat (first | refine lIa H ?_ | refine lLa H ?_ | refine lBa H ?_ | refine lPa H ?_ | refine lSa H ?_)
 refine call_pa H (search_t (nums p c (ks kv)) nums_sl h1 (by rw [ks_len]; unfold NB at h2; omega) k) fun wx H=>?_
 exact ⟨_,_,rfl,_,⟨rfl,rfl⟩,zzaA H h1 h2⟩
theorem get_r (b:Nat) (kv:List (Int×RtE)) (k:Int):Tri P F.zzah [bptr b,.int .i64 k] [bookG ER tBookR b kv] fun v L'=>v = .tuple [.agg ([.int .i64 (getK rt0 kv k).num,.int .i64 (getK rt0 kv k).coll,.bool (getK rt0 kv k).val]:List Value).toArray,.bool (hasK kv k)].toArray∧L' = [bookG ER tBookR b kv]:=by
 intro w S hS
 refine zzg5 ?_
 unfold zzah
 have H:=Own.start hS
 refine alc_o H fun b3 wx H=>alc_o H fun b5 wx H=>?_
 obtain ⟨p,c,q,c2,h1,h2,H⟩:=zzbr H (by repeat (first | exact Pick.here | apply Pick.there))
 dsimp only [nn]
 repeat (first | refine lIa H ?_ | refine lLa H ?_ | refine lBa H ?_ | refine lPa H ?_ | refine lSa H ?_)
 refine call_pa H (search_t (nums p c (ks kv)) nums_sl h1 (by rw [ks_len]; unfold NB at h2; omega) k) fun wx H=>?_
 refine ⟨_,_,rfl,cnd_i (fun h=>?_) fun h=>?_⟩
 · have h:hasK kv k = false:=by rw [Bool.not_eq_true'] at h; exact h
   have eg:getK rt0 kv k = rt0:=by unfold getK; rw [h]; rfl
   repeat (first | refine lIa H ?_ | refine lLa H ?_ | refine lBa H ?_ | refine lPa H ?_ | refine lSa H ?_)
   iterate 3 refine sta H fun wx H=>?_
   repeat (first | refine lIa H ?_ | refine lLa H ?_ | refine lBa H ?_ | refine lPa H ?_ | refine lSa H ?_)
   have H:=H.drop (L1:=[row b [.slice p (ks kv).length c,.slice q (vs kv).length c2] tBookR,nums p c (ks kv),els ER q c2 (vs kv)]) (by repeat (first | exact Cut.nil | (apply Cut.cons; (repeat (first | exact Pick.here | apply Pick.there)))))
   exact ⟨_,⟨by rw [eg,h]; rfl,rfl⟩,zzaA H h1 h2⟩
 · have h:hasK kv k = true:=by rw [Bool.not_eq_false'] at h; exact h
   have hlt:=at_lt h
   have hv:=vs_at (d:=rt0) h
   repeat (first | refine lIa H ?_ | refine lLa H ?_ | refine lBa H ?_ | refine lPa H ?_ | refine lSa H ?_)
   refine ⟨⟨by omega,by rw [vs_len]; show ((at' kv k:Nat):Int) < _; exact_mod_cast hlt⟩,?_⟩
   rw [Int.toNat_natCast]
   obtain ⟨d,rfl,hc⟩:=els_at (q:=q) (c:=c2) H (by repeat (first | exact Pick.here | apply Pick.there)) hv
   dsimp only [nn]
   have hc2:∀ i v,(ER.enc (getK rt0 kv k))[i]? = some v→wx.cell? (((⟨d,0,none⟩:Addr).add (at' kv k * 3)).add i) = some v:=by
    intro i v hv
    rw [add_lit,add_lit,Nat.zero_add]; exact hc i v hv
   have hc0:∀ v,(ER.enc (getK rt0 kv k))[0]? = some v→wx.cell? ((⟨d,0,none⟩:Addr).add (at' kv k * 3)) = some v:=by
    intro v hv
    rw [add_lit,Nat.zero_add]; exact hc 0 v hv
   refine ⟨_,hc0 _ rfl,?_⟩
   refine ⟨_,hc2 1 _ rfl,?_⟩
   refine ⟨_,hc2 2 _ rfl,?_⟩
   iterate 3 refine sta H fun wx H=>?_
   repeat (first | refine lIa H ?_ | refine lLa H ?_ | refine lBa H ?_ | refine lPa H ?_ | refine lSa H ?_)
   have H:=H.drop (L1:=[row b [.slice p (ks kv).length c,.slice (some ⟨d,0,none⟩) (vs kv).length c2] tBookR,nums p c (ks kv),els ER (some ⟨d,0,none⟩) c2 (vs kv)]) (by repeat (first | exact Cut.nil | (apply Cut.cons; (repeat (first | exact Pick.here | apply Pick.there)))))
   exact ⟨_,⟨by rw [h],rfl⟩,zzaA H h1 h2⟩
theorem put_r (b:Nat) (kv:List (Int×RtE)) (k:Int) (v:RtE) (hlen:kv.length + 1 < NB):Tri P F.zzau [bptr b,.int .i64 k,.agg ([.int .i64 (v).num,.int .i64 (v).coll,.bool (v).val]:List Value).toArray] [bookG ER tBookR b kv] fun r L'=>r = .bool (!hasK kv k)∧L' = [bookG ER tBookR b (putK kv k v)]:=by
 intro w S hS
 refine zzg9 ?_
 unfold zzau
 have H:=Own.start hS
 refine alc_o H fun b5 wx H=>?_
 obtain ⟨p,c,q,c2,h1,h2,H⟩:=zzbr H (by repeat (first | exact Pick.here | apply Pick.there))
 dsimp only [nn]
 repeat (first | refine lIa H ?_ | refine lLa H ?_ | refine lBa H ?_ | refine lPa H ?_ | refine lSa H ?_)
 refine call_pa H (search_t (nums p c (ks kv)) nums_sl h1 (by rw [ks_len]; unfold NB at h2; omega) k) fun wx H=>?_
 have hile:at' kv k≤kv.length:=by have:=lb_le (k:=k) (ks kv); rw [ks_len] at this; exact this
 refine ⟨_,_,rfl,cnd_i (fun h=>?_) fun h=>join_o ?_⟩
 · have h:hasK kv k = true:=h
   obtain ⟨e1,e2⟩:=putK_old (v:=v) h
   have hlt:=at_lt h
   refine drw_o H fun wx H=>?_
   repeat (first | refine lIa H ?_ | refine lLa H ?_ | refine lBa H ?_ | refine lPa H ?_ | refine lSa H ?_)
   refine ⟨⟨by omega,by rw [vs_len]; show ((at' kv k:Nat):Int) < _; exact_mod_cast hlt⟩,?_⟩
   rw [Int.toNat_natCast,show lb (ks kv) k = at' kv k from rfl]
   have hlv:at' kv k < (vs kv).length:=by rw [vs_len]; exact hlt
   have H:=H.perm (L1:=[els ER q c2 (vs kv)]) (by repeat (first | exact Cut.nil | (apply Cut.cons; (repeat (first | exact Pick.here | apply Pick.there)))))
   simp only [List.cons_append,List.nil_append] at H
   obtain ⟨d,rest,rfl,hlen2,hle,hmx,H⟩:=els_open H .here (by intro e; rw [e] at hlv; simp at hlv)
   dsimp only [nn]
   show st1 _ _ _ _
   have hfit:at' kv k * 3 + 2 < (ER.flat (vs kv) ++ rest).length:=by
    rw [List.length_append,El.flat_len]
    have:(at' kv k + 1) * 3≤(vs kv).length * 3:=Nat.mul_le_mul_right _ hlv
    show _ < (vs kv).length * 3 + _
    omega
   rw [add_lit,Nat.zero_add]
   refine st1_o H .here (by show at' kv k * 3 < _; omega) fun wx H=>?_
   rw [add_lit]
   refine st1_o H .here (by simp only [List.length_set]; omega) fun wx H=>?_
   rw [add_lit]
   refine st1_o H .here (by simp only [List.length_set]; omega) fun wx H=>?_
   rw [splice3 (L:=ER.flat (vs kv) ++ rest) (i:=at' kv k * 3) (by omega)] at H
   have H:=els_put (E:=ER) (xs:=vs kv) (j:=at' kv k) (y:=v) H hlen2 hle hmx hlv
   rw [h]
   refine ⟨_,⟨rfl,rfl⟩,?_⟩
   have hl:(putK kv k v).length = kv.length:=by unfold putK; rw [h,if_pos rfl,List.length_set]
   have H:=H.drop (L1:=[row b [.slice p (ks kv).length c,.slice (some ⟨d,0,none⟩) (vs kv).length c2] tBookR,nums p c (ks kv),els ER (some ⟨d,0,none⟩) c2 ((vs kv).set (at' kv k) v)]) (by repeat (first | exact Cut.nil | (apply Cut.cons; (repeat (first | exact Pick.here | apply Pick.there)))))
   refine zzaA (p:=p) (c:=c) (q:=some ⟨d,0,none⟩) (c2:=c2) ?_ (by rw [e1]; exact h1) (by omega)
   rw [e1,e2]
   rw [List.length_set]
   exact H
 · have h:hasK kv k = false:=h
   obtain ⟨e1,e2⟩:=putK_new (v:=v) h
   have hn:(ks kv)[lb (ks kv) k]?≠some k:=of_decide_eq_false h
   have hl:(putK kv k v).length = kv.length + 1:=by
    rw [← ks_len,e1,ins_len (by rw [ks_len]; exact hile),ks_len]
   have fin:∀ (p1 q1:Option Addr) (c3 c4:Nat) (wx:World),X.Own w S [row b [.slice p1 (ins (ks kv) (at' kv k) k).length c3,.slice q1 (ins (vs kv) (at' kv k) v).length c4] tBookR,nums p1 c3 (ins (ks kv) (at' kv k) k),els ER q1 c4 (ins (vs kv) (at' kv k) v)] wx →
    zzb0 (fun r w'=>∃ L',(r = .bool (!hasK kv k)∧L' = [bookG ER tBookR b (putK kv k v)])∧X.Own w S L' w') wx:=by
    intro p1 q1 c3 c4 wx H
    unfold zzb0
    rw [h]
    refine ⟨_,⟨rfl,rfl⟩,?_⟩
    rw [← e1,← e2] at H
    exact zzaA H (by rw [e1]; exact ins_up h1 hn) (by omega)
   have hk:at' kv k≤(ks kv).length:=by rw [ks_len]; exact hile
   have hv:at' kv k≤(vs kv).length:=by rw [vs_len]; exact hile
   refine drw_o H fun wx H=>?_
   repeat (first | refine lIa H ?_ | refine lLa H ?_ | refine lBa H ?_ | refine lPa H ?_ | refine lSa H ?_)
   refine ⟨alc_o H fun b30 wx H=>⟨?_,?_,?_,?_,alc_o H fun b63 wx H=>⟨?_,?_,?_⟩⟩,alc_o H fun b88 wx H=>⟨?_,?_,alc_o H fun b96 wx H=>⟨?_,?_,?_,?_⟩⟩⟩
   · repeat (first | refine lIa H ?_ | refine lLa H ?_ | refine lBa H ?_ | refine lPa H ?_ | refine lSa H ?_)
     rfl
   · repeat (first | refine lIa H ?_ | refine lLa H ?_ | refine lBa H ?_ | refine lPa H ?_ | refine lSa H ?_)
     rfl
   · repeat (first | refine lIa H ?_ | refine lLa H ?_ | refine lBa H ?_ | refine lPa H ?_ | refine lSa H ?_)
     rfl
   · skip
     refine call_oa H (insert_i (p:=p) (c:=c) (xs:=ks kv) (vb:=b30) (x:=k) hk (by rw [ks_len]; unfold NB at *; omega)) fun vx L' wx hq H=>?_
     obtain ⟨p1,c3,rfl,rfl⟩:=hq
     simp only [List.cons_append,List.nil_append] at H
     refine ⟨_,_,_,rfl,?_,?_,alc_o H fun b46 wx H=>⟨?_,?_,?_⟩⟩
     · repeat (first | refine lIa H ?_ | refine lLa H ?_ | refine lBa H ?_ | refine lPa H ?_ | refine lSa H ?_)
       rfl
     · repeat (first | refine lIa H ?_ | refine lLa H ?_ | refine lBa H ?_ | refine lPa H ?_ | refine lSa H ?_)
       rfl
     · repeat (first | refine lIa H ?_ | refine lLa H ?_ | refine lBa H ?_ | refine lPa H ?_ | refine lSa H ?_)
       rfl
     · repeat (first | refine lIa H ?_ | refine lLa H ?_ | refine lBa H ?_ | refine lPa H ?_ | refine lSa H ?_)
       rfl
     refine call_oa H (insert_r (p:=q) (c:=c2) (xs:=vs kv) (vb:=b46) (x:=v) hv (by rw [vs_len]; unfold NB at *; omega)) fun vx L' wx hq H=>?_
     obtain ⟨q1,c4,rfl,rfl⟩:=hq
     simp only [List.cons_append,List.nil_append] at H
     refine ⟨_,_,_,rfl,?_⟩
     dsimp only [nn]
     iterate 2 refine sta H fun wx H=>?_
     simp only [List.set_cons_zero,List.set_cons_succ] at H
     exact fin p1 q1 c3 c4 _ (H.dp)
   · repeat (first | refine lIa H ?_ | refine lLa H ?_ | refine lBa H ?_ | refine lPa H ?_ | refine lSa H ?_)
     rfl
   · repeat (first | refine lIa H ?_ | refine lLa H ?_ | refine lBa H ?_ | refine lPa H ?_ | refine lSa H ?_)
     rfl
   · skip
     refine call_oa H (insert_i (p:=p) (c:=c) (xs:=ks kv) (vb:=b30) (x:=k) hk (by rw [ks_len]; unfold NB at *; omega)) fun vx L' wx hq H=>?_
     obtain ⟨p1,c3,rfl,rfl⟩:=hq
     simp only [List.cons_append,List.nil_append] at H
     refine ⟨_,_,_,rfl,?_,?_,?_⟩
     · repeat (first | refine lIa H ?_ | refine lLa H ?_ | refine lBa H ?_ | refine lPa H ?_ | refine lSa H ?_)
       rfl
     · repeat (first | refine lIa H ?_ | refine lLa H ?_ | refine lBa H ?_ | refine lPa H ?_ | refine lSa H ?_)
       rfl
     refine call_oa H (insert_r (p:=q) (c:=c2) (xs:=vs kv) (vb:=b63) (x:=v) hv (by rw [vs_len]; unfold NB at *; omega)) fun vx L' wx hq H=>?_
     obtain ⟨q1,c4,rfl,rfl⟩:=hq
     simp only [List.cons_append,List.nil_append] at H
     refine ⟨_,_,_,rfl,?_⟩
     dsimp only [nn]
     iterate 2 refine sta H fun wx H=>?_
     simp only [List.set_cons_zero,List.set_cons_succ] at H
     exact fin p1 q1 c3 c4 _ (H.dp)
   · repeat (first | refine lIa H ?_ | refine lLa H ?_ | refine lBa H ?_ | refine lPa H ?_ | refine lSa H ?_)
     rfl
   · repeat (first | refine lIa H ?_ | refine lLa H ?_ | refine lBa H ?_ | refine lPa H ?_ | refine lSa H ?_)
     rfl
   · repeat (first | refine lIa H ?_ | refine lLa H ?_ | refine lBa H ?_ | refine lPa H ?_ | refine lSa H ?_)
     rfl
   · repeat (first | refine lIa H ?_ | refine lLa H ?_ | refine lBa H ?_ | refine lPa H ?_ | refine lSa H ?_)
     rfl
   · repeat (first | refine lIa H ?_ | refine lLa H ?_ | refine lBa H ?_ | refine lPa H ?_ | refine lSa H ?_)
     rfl
   · skip
     refine call_oa H (insert_i (p:=p) (c:=c) (xs:=ks kv) (vb:=b96) (x:=k) hk (by rw [ks_len]; unfold NB at *; omega)) fun vx L' wx hq H=>?_
     obtain ⟨p1,c3,rfl,rfl⟩:=hq
     simp only [List.cons_append,List.nil_append] at H
     refine ⟨_,_,_,rfl,?_,?_,?_⟩
     · repeat (first | refine lIa H ?_ | refine lLa H ?_ | refine lBa H ?_ | refine lPa H ?_ | refine lSa H ?_)
       rfl
     · repeat (first | refine lIa H ?_ | refine lLa H ?_ | refine lBa H ?_ | refine lPa H ?_ | refine lSa H ?_)
       rfl
     refine call_oa H (insert_r (p:=q) (c:=c2) (xs:=vs kv) (vb:=b88) (x:=v) hv (by rw [vs_len]; unfold NB at *; omega)) fun vx L' wx hq H=>?_
     obtain ⟨q1,c4,rfl,rfl⟩:=hq
     simp only [List.cons_append,List.nil_append] at H
     refine ⟨_,_,_,rfl,?_⟩
     dsimp only [nn]
     iterate 2 refine sta H fun wx H=>?_
     simp only [List.set_cons_zero,List.set_cons_succ] at H
     exact fin p1 q1 c3 c4 _ (H.dp)
theorem take_r (b:Nat) (kv:List (Int×RtE)) (k:Int):Tri P F.zzaC [bptr b,.int .i64 k] [bookG ER tBookR b kv] fun r L'=>r = .tuple [.agg ([.int .i64 (getK rt0 kv k).num,.int .i64 (getK rt0 kv k).coll,.bool (getK rt0 kv k).val]:List Value).toArray,.bool (hasK kv k)].toArray∧L' = [bookG ER tBookR b (takeK kv k)]:=by
 intro w S hS
 refine zzgY ?_
 unfold zzaC
 have H:=Own.start hS
 refine alc_o H fun b3 wx H=>?_
 refine call_pa H (get_r b kv k) fun wx H=>?_
 refine ⟨_,_,_,_,rfl,alc_o H fun b10 wx H=>?_⟩
 iterate 3 refine sta H fun wx H=>?_
 refine join_o (cnd_i (fun h=>?_) fun h=>?_)
 · obtain ⟨e1,e2⟩:=takeK_old h
   have hlt:=at_lt h
   obtain ⟨p,c,q,c2,h1,h2,H⟩:=zzbr H (by repeat (first | exact Pick.here | apply Pick.there))
   dsimp only [nn]
   repeat (first | refine lIa H ?_ | refine lLa H ?_ | refine lBa H ?_ | refine lPa H ?_ | refine lSa H ?_)
   refine call_pa H (search_t (nums p c (ks kv)) nums_sl h1 (by rw [ks_len]; unfold NB at h2; omega) k) fun wx H=>?_
   refine ⟨_,_,rfl,?_⟩
   refine drw_o H fun wx H=>?_
   repeat (first | refine lIa H ?_ | refine lLa H ?_ | refine lBa H ?_ | refine lPa H ?_ | refine lSa H ?_)
   have ew:IntKind.i64.wrap (((lb (ks kv) k:Nat):Int) + 1) = ((at' kv k:Nat):Int) + 1:=by
    unfold NB at h2
    rw [show lb (ks kv) k = at' kv k from rfl,W_id (by omega) (by omega)]
   rw [ew]
   refine call_oa H (delete_i (p:=p) (c:=c) (xs:=ks kv) (i:=at' kv k) (by rw [ks_len]; exact hlt)) fun vx L' wx hq H=>?_
   obtain ⟨c3,rfl,rfl⟩:=hq
   simp only [List.cons_append,List.nil_append] at H
   refine ⟨_,_,_,rfl,?_,?_⟩
   · repeat (first | refine lIa H ?_ | refine lLa H ?_ | refine lBa H ?_ | refine lPa H ?_ | refine lSa H ?_)
     rfl
   refine call_oa H (delete_r (p:=q) (c:=c2) (xs:=vs kv) (i:=at' kv k) (by rw [vs_len]; exact hlt)) fun vx L' wx hq H=>?_
   obtain ⟨c4,rfl,rfl⟩:=hq
   simp only [List.cons_append,List.nil_append] at H
   refine ⟨_,_,_,rfl,?_⟩
   iterate 2 refine sta H fun wx H=>?_
   simp only [List.set_cons_zero,List.set_cons_succ] at H
   unfold zzbU
   repeat (first | refine lIa H ?_ | refine lLa H ?_ | refine lBa H ?_ | refine lPa H ?_ | refine lSa H ?_)
   iterate 3 refine sta H fun wx H=>?_
   repeat (first | refine lIa H ?_ | refine lLa H ?_ | refine lBa H ?_ | refine lPa H ?_ | refine lSa H ?_)
   refine ⟨_,⟨rfl,rfl⟩,?_⟩
   have H:=H.drop (L1:=[row b [.slice p ((ks kv).eraseIdx (at' kv k)).length c3,.slice q ((vs kv).eraseIdx (at' kv k)).length c4] tBookR,nums p c3 ((ks kv).eraseIdx (at' kv k)),els ER q c4 ((vs kv).eraseIdx (at' kv k))]) (by repeat (first | exact Cut.nil | (apply Cut.cons; (repeat (first | exact Pick.here | apply Pick.there)))))
   rw [← e1,← e2] at H
   have hl:=takeK_len kv k
   exact zzaA H (by rw [e1]; exact h1.sublist (List.eraseIdx_sublist _ _)) (by omega)
 · unfold zzbU
   repeat (first | refine lIa H ?_ | refine lLa H ?_ | refine lBa H ?_ | refine lPa H ?_ | refine lSa H ?_)
   iterate 3 refine sta H fun wx H=>?_
   repeat (first | refine lIa H ?_ | refine lLa H ?_ | refine lBa H ?_ | refine lPa H ?_ | refine lSa H ?_)
   refine ⟨_,⟨rfl,rfl⟩,?_⟩
   have:takeK kv k = kv:=by unfold takeK; rw [h]; rfl
   rw [this]
   exact H.dp
theorem bcopy_r (b:Nat) (kv:List (Int×RtE)):Tri P F.zzaB [bptr b] [bookG ER tBookR b kv] fun r L'=>∃ b',r = bptr b'∧L' = [bookG ER tBookR b' kv,bookG ER tBookR b kv]:=by
 intro w S hS
 refine zzgP ?_
 unfold zzaB
 have H:=Own.start hS
 obtain ⟨p,c,q,c2,h1,h2,H⟩:=zzbr H .here
 refine drw_o H fun wx H=>?_
 dsimp only [nn]
 repeat (first | refine lIa H ?_ | refine lLa H ?_ | refine lBa H ?_ | refine lPa H ?_ | refine lSa H ?_)
 refine call_oa H (clone_i (nums p c (ks kv)) own_sl (by rw [ks_len]; omega)) fun vx L' wx hq H=>?_
 obtain ⟨p1,c3,rfl,rfl⟩:=hq
 simp only [List.cons_append,List.nil_append] at H
 refine ⟨_,_,_,rfl,?_,?_⟩
 · repeat (first | refine lIa H ?_ | refine lLa H ?_ | refine lBa H ?_ | refine lPa H ?_ | refine lSa H ?_)
   rfl
 refine call_oa H (clone_r (els ER q c2 (vs kv)) own_slZ (by rw [vs_len]; omega)) fun vx L' wx hq H=>?_
 obtain ⟨q1,c4,rfl,rfl⟩:=hq
 simp only [List.cons_append,List.nil_append] at H
 refine ⟨_,_,_,rfl,alc_o H fun b24 wx H=>?_⟩
 refine ⟨_,⟨b24,rfl,rfl⟩,?_⟩
 have H:=H.drop (L1:=[row b24 [.slice p1 (ks kv).length c3,.slice q1 (vs kv).length c4] tBookR,nums p1 c3 (ks kv),els ER q1 c4 (vs kv),row b [.slice p (ks kv).length c,.slice q (vs kv).length c2] tBookR,nums p c (ks kv),els ER q c2 (vs kv)]) (by repeat (first | exact Cut.nil | (apply Cut.cons; (repeat (first | exact Pick.here | apply Pick.there)))))
 have H:=zzaA H h1 h2
 have H:=own_comm (A:=[bookG ER tBookR b24 kv]) H
 exact own_comm (A:=[bookG ER tBookR b kv]) (B:=[bookG ER tBookR b24 kv]) (zzaA H h1 h2)
def thrVr (g h:Nat):Value:=.func (.func F.zzam) [].toArray [bptr g,bptr h].toArray
noncomputable def thrEr (g h:Nat) (p:Option Addr) (c:Nat) (q:Option Addr) (c2:Nat) (kv:List (Int×RtE)):List It:=[row g [.slice p (ks kv).length c] tInts,row h [.slice q (vs kv).length c2] ER.ta,nums p c (ks kv),els ER q c2 (vs kv)]
def pairsr (kv:List (Int×RtE)):List (List Value):=kv.map fun x=>[.int .i64 x.1,.agg ([.int .i64 (x.2).num,.int .i64 (x.2).coll,.bool (x.2).val]:List Value).toArray]
theorem pairsr_len (kv:List (Int×RtE)):∀ x∈pairsr kv,x.length = 2:=by
 intro x hx
 obtain ⟨y,_,rfl⟩:=List.mem_map.1 hx
 rfl
theorem thrr_enters:enters P F.zzam = true:=by kernel_rfl
theorem all_r (b:Nat) (kv:List (Int×RtE)):Tri P F.zzat [bptr b] [bookG ER tBookR b kv] fun r L'=>∃ g h p c q c2,r = thrVr g h∧L' = thrEr g h p c q c2 kv ++ [bookG ER tBookR b kv]:=by
 intro w S hS
 refine zzg7 ?_
 unfold zzat
 have H:=Own.start hS
 obtain ⟨p,c,q,c2,h1,h2,H⟩:=zzbr H .here
 refine drw_o H fun wx H=>?_
 dsimp only [nn]
 repeat (first | refine lIa H ?_ | refine lLa H ?_ | refine lBa H ?_ | refine lPa H ?_ | refine lSa H ?_)
 refine call_oa H (clone_i (nums p c (ks kv)) own_sl (by rw [ks_len]; omega)) fun vx L' wx hq H=>?_
 obtain ⟨p1,c3,rfl,rfl⟩:=hq
 simp only [List.cons_append,List.nil_append] at H
 refine ⟨_,_,_,rfl,?_,?_⟩
 · repeat (first | refine lIa H ?_ | refine lLa H ?_ | refine lBa H ?_ | refine lPa H ?_ | refine lSa H ?_)
   rfl
 refine call_oa H (clone_r (els ER q c2 (vs kv)) own_slZ (by rw [vs_len]; omega)) fun vx L' wx hq H=>?_
 obtain ⟨q1,c4,rfl,rfl⟩:=hq
 simp only [List.cons_append,List.nil_append] at H
 refine ⟨_,_,_,rfl,?_⟩
 refine zzht ?_
 unfold zza3
 refine alc_o H fun g wx H=>alc_o H fun h wx H=>?_
 refine ⟨_,rfl,_,⟨g,h,p1,c3,q1,c4,rfl,rfl⟩,?_⟩
 have H:=H.perm (L1:=[row b [.slice p (ks kv).length c,.slice q (vs kv).length c2] tBookR,nums p c (ks kv),els ER q c2 (vs kv)]) (by repeat (first | exact Cut.nil | (apply Cut.cons; (repeat (first | exact Pick.here | apply Pick.there)))))
 have H:=zzaA H h1 h2
 exact own_comm (A:=[bookG ER tBookR b kv]) (B:=thrEr g h p1 c3 q1 c4 kv) (H.drop (by unfold thrEr; exact (by repeat (first | exact Cut.nil | (apply Cut.cons; (repeat (first | exact Pick.here | apply Pick.there)))))))
theorem thrr_it (g h:Nat) (p:Option Addr) (c:Nat) (q:Option Addr) (c2:Nat) (kv:List (Int×RtE)) (hl:kv.length < NB) :
 Iter P F.zzam [bptr g,bptr h] (thrEr g h p c q c2 kv) (pairsr kv):=by
 intro y w0 S0 L0 w Q I D hy H h0 hstep hend hstop
 obtain ⟨fn,fa,fc,rfl⟩:=hy
 unfold NB at hl
 refine zzhb ?_
 unfold zzam
 have H:=own_comm H
 unfold thrEr at H
 simp only [List.cons_append,List.nil_append] at H
 refine ldL_o H .here (by rfl) ?_
 refine loop_o (fun (st:Int) L'=>∃ (k:Nat) (L:List It),k≤kv.length∧st = k∧I k L∧L' = thrEr g h p c q c2 kv ++ L) (fun (st:Int)=>((kv.length:Int) - st).toNat) H
  ⟨0,L0,by omega,rfl,h0,rfl⟩ ?_
 rintro _ _ wx ⟨k,L,hk,rfl,hI,rfl⟩ H
 unfold zzdZ
 refine cnd_i (fun hc=>?_) fun hc=>?_
 · have hc:=of_decide_eq_true hc
   rw [ks_len] at hc
   have hkl:k < kv.length:=by omega
   have H1:=H
   unfold thrEr at H1
   simp only [List.cons_append,List.nil_append] at H1
   have hk1:(ks kv)[k]? = some (kv[k].1):=by simp [ks,hkl]
   have hk2:(vs kv)[k]? = some (kv[k].2):=by simp [vs,hkl]
   refine ⟨⟨by omega,by rw [ks_len]; exact_mod_cast hkl⟩,?_⟩
   rw [Int.toNat_natCast]
   obtain ⟨d1,rfl,hc1⟩:=els_at (q:=p) (c:=c) H1 (.there (.there .here)) hk1
   dsimp only [nn]
   refine ⟨_,by rw [add_lit,Nat.zero_add]; exact hc1 0 _ rfl,?_⟩
   refine ldL_o H1 (.there .here) (by rfl) ⟨⟨by omega,by rw [vs_len]; exact_mod_cast hkl⟩,?_⟩
   rw [Int.toNat_natCast]
   obtain ⟨d2,rfl,hc2⟩:=els_at (q:=q) (c:=c2) H1 (.there (.there (.there .here))) hk2
   dsimp only [nn]
   refine ⟨_,by rw [add_lit,Nat.zero_add]; exact hc2 0 _ rfl,?_⟩
   refine ⟨_,by rw [add_lit,add_lit,Nat.zero_add]; exact hc2 1 _ rfl,?_⟩
   refine ⟨_,by rw [add_lit,add_lit,Nat.zero_add]; exact hc2 2 _ rfl,?_⟩
   have hx:(pairsr kv)[k]? = some [.int .i64 kv[k].1,.agg ([.int .i64 (kv[k].2).num,.int .i64 (kv[k].2).coll,.bool (kv[k].2).val]:List Value).toArray]:=by simp [pairsr,hkl]
   refine callVal_mono (hstep k _ L [] wx hx hI (by rw [List.append_nil]; exact own_comm H)) ?_
   rintro _ w' ⟨bo,rfl,L',hL',H'⟩
   rw [List.append_nil] at H'
   refine ⟨_,rfl,?_⟩
   cases bo
   · exact cnd_i (fun _=>hstop _ _ hL' H') (fun h=>by cases h)
   · refine cnd_i (fun h=>by cases h) fun _=>?_
     rw [W_id (by omega) (by omega)]
     exact ⟨⟨_,⟨k + 1,L',by omega,by push_cast; rfl,hL',rfl⟩,own_comm H'⟩,by omega⟩
 · have hc:=of_decide_eq_false hc
   rw [ks_len] at hc
   have:k = (pairsr kv).length:=by simp [pairsr]; omega
   subst this
   exact hend _ _ hI (own_comm H)
structure DvE where
 bits:Int
 ptr:Option Addr
noncomputable abbrev ED:El P where
 α:=DvE
 enc:=fun x=>[.int .i64 x.bits,.pointer x.ptr]
 z:=2
 ta:=tDevices
 te:=tDevice
 bytes:=16
 zs:=[.int .i64 0,.pointer none]
 hT:=appDevs
 hZ:=zeroDev
 hz1:=by simp [Value.oneCell']
 hlen:=fun _=>rfl
 h1:=by intro x u hu; simp only [List.mem_cons,List.not_mem_nil,or_false] at hu; rcases hu with rfl | rfl <;> rfl
 hz:=by omega
 hb:=by omega
def dv0:DvE:=⟨0,none⟩
theorem ov_d:ovB P F.zzcO:=by
 refine ⟨_,Tryz.func126,⟨by kernel_rfl,by kernel_rfl⟩,by kernel_rfl,Extern.SlicesOverlaps.overlaps #[ED.ta,ED.ta] #[T.t4],by kernel_rfl,?_⟩
 intro w vb o d o' la ca lb cb cur cv tA tB hne hrd hrv hcur
 obtain ⟨hu,i,z,hi,hz,h3,h4,h5⟩:=appB_out (El.hT ED)
 have hrd':=hrd
 have hrv':=hrv
 unfold Row at hrd' hrv'
 exact Lib.run_overlaps_apart (P:=P) w ED.ta T.t4 ED.te hu 2 (fun w=>by simp only [sizeOf,typeInfo,hi,h3]; rfl) ⟨vb,o,none⟩ ⟨d,o',none⟩ la ca lb cb (fun e=>hne e.symm) tB tA cv.length cur.length
  (by simp [World.shape?,hrv']) (by simp [World.shape?,hrd']) (by intro e; exact hcur (List.length_eq_zero_iff.1 e)) (hrv.frozen o) (hrv.frozen cv.length)
theorem insert_d {p:Option Addr} {c:Nat} {xs:List DvE} {i vb:Nat} {x:DvE} {tv:TypeId} (hi:i≤xs.length) (hl:xs.length < NB) :
 Tri P F.zzae [.slice p xs.length c,.int .i64 (i:Int),.slice (some ⟨vb,0,none⟩) 1 1] [els ED p c xs,row vb (ED.enc x) tv] fun v L'=>∃ p' c',v = .slice p' (ins xs i x).length c'∧L' = [els ED p' c' (ins xs i x)]:=by
 intro w S hS
 refine zzeH ?_
 unfold NB at hl
 rw [show ∀ Q,zzae p xs.length c (i:Int) (some ⟨vb,0,none⟩) 1 1 w Q = insertG ED T.t3 F.zzcO F.zzb6 p xs.length c (i:Int) (some ⟨vb,0,none⟩) 1 1 w Q from fun _=>rfl]
 exact insertG_o (E:=ED) (ti:=T.t3) ov_d (by kernel_rfl) hi (by show (xs.length + 1) * 16≤_; omega) (by unfold maxLen; omega) (Own.start hS) fun p' c' w' H=>⟨_,⟨p',c',rfl,rfl⟩,H⟩
theorem delete_d {p:Option Addr} {c:Nat} {xs:List DvE} {i:Nat} (hi:i < xs.length):Tri P F.zzaj [.slice p xs.length c,.int .i64 (i:Int),.int .i64 (i + 1:Int)] [els ED p c xs] fun v L'=>∃ c',v = .slice p (xs.eraseIdx i).length c'∧L' = [els ED p c' (xs.eraseIdx i)]:=by
 intro w S hS
 refine zzeI ?_
 rw [show ∀ Q,zzaj p xs.length c (i:Int) (i + 1:Int) w Q = deleteG ED T.t0 p xs.length c (i:Int) (i + 1:Int) w Q from fun _=>rfl]
 exact deleteG_o (E:=ED) (t0:=T.t0) hi (Own.start hS) fun c' w' H=>⟨_,⟨c',rfl,rfl⟩,H⟩
theorem clone_d (i:It) {p:Option Addr} {c:Nat} {xs:List DvE} (hi:∀ w S,i.h w S→Sl w p (ED.flat xs)) (hl:xs.length < NB) :
 Tri P F.zzal [.slice p xs.length c] [i] fun v L'=>∃ p' c',v = .slice p' xs.length c'∧L' = [els ED p' c' xs,i]:=by
 intro w S hS
 refine zzeS ?_
 unfold NB at hl
 rw [show ∀ Q,zzal p xs.length c w Q = cloneG ED p xs.length c w Q from fun _=>rfl]
 exact cloneG_o (E:=ED) (Own.start hS) .here hi (by show xs.length * 16≤_; omega) (by unfold maxLen; omega) fun p' c' w' H=>⟨_,⟨p',c',rfl,rfl⟩,H⟩
theorem new_d:Tri P F.zzaH [] [] fun v L'=>∃ b,v = bptr b∧L' = [bookG ED tBookD b []]:=by
 intro w S hS
 refine zzhW ?_
 unfold zzaH
 have H:=Own.start hS
 refine alc_o H fun b1 wx H=>?_
 exact ⟨_,⟨b1,rfl,rfl⟩,zzl2 H⟩
theorem get_d (b:Nat) (kv:List (Int×DvE)) (k:Int):Tri P F.zzaa [bptr b,.int .i64 k] [bookG ED tBookD b kv] fun v L'=>v = .tuple [.agg ([.int .i64 (getK dv0 kv k).bits,.pointer (getK dv0 kv k).ptr]:List Value).toArray,.bool (hasK kv k)].toArray∧L' = [bookG ED tBookD b kv]:=by
 intro w S hS
 refine zzgC ?_
 unfold zzaa
 have H:=Own.start hS
 refine alc_o H fun b3 wx H=>alc_o H fun b5 wx H=>?_
 obtain ⟨p,c,q,c2,h1,h2,H⟩:=zzbr H (by repeat (first | exact Pick.here | apply Pick.there))
 dsimp only [nn]
 repeat (first | refine lIa H ?_ | refine lLa H ?_ | refine lBa H ?_ | refine lPa H ?_ | refine lSa H ?_)
 refine call_pa H (search_t (nums p c (ks kv)) nums_sl h1 (by rw [ks_len]; unfold NB at h2; omega) k) fun wx H=>?_
 refine ⟨_,_,rfl,cnd_i (fun h=>?_) fun h=>?_⟩
 · have h:hasK kv k = false:=by rw [Bool.not_eq_true'] at h; exact h
   have eg:getK dv0 kv k = dv0:=by unfold getK; rw [h]; rfl
   repeat (first | refine lIa H ?_ | refine lLa H ?_ | refine lBa H ?_ | refine lPa H ?_ | refine lSa H ?_)
   iterate 2 refine sta H fun wx H=>?_
   repeat (first | refine lIa H ?_ | refine lLa H ?_ | refine lBa H ?_ | refine lPa H ?_ | refine lSa H ?_)
   have H:=H.drop (L1:=[row b [.slice p (ks kv).length c,.slice q (vs kv).length c2] tBookD,nums p c (ks kv),els ED q c2 (vs kv)]) (by repeat (first | exact Cut.nil | (apply Cut.cons; (repeat (first | exact Pick.here | apply Pick.there)))))
   exact ⟨_,⟨by rw [eg,h]; rfl,rfl⟩,zzaA H h1 h2⟩
 · have h:hasK kv k = true:=by rw [Bool.not_eq_false'] at h; exact h
   have hlt:=at_lt h
   have hv:=vs_at (d:=dv0) h
   repeat (first | refine lIa H ?_ | refine lLa H ?_ | refine lBa H ?_ | refine lPa H ?_ | refine lSa H ?_)
   refine ⟨⟨by omega,by rw [vs_len]; show ((at' kv k:Nat):Int) < _; exact_mod_cast hlt⟩,?_⟩
   rw [Int.toNat_natCast]
   obtain ⟨d,rfl,hc⟩:=els_at (q:=q) (c:=c2) H (by repeat (first | exact Pick.here | apply Pick.there)) hv
   dsimp only [nn]
   have hc2:∀ i v,(ED.enc (getK dv0 kv k))[i]? = some v→wx.cell? (((⟨d,0,none⟩:Addr).add (at' kv k * 2)).add i) = some v:=by
    intro i v hv
    rw [add_lit,add_lit,Nat.zero_add]; exact hc i v hv
   have hc0:∀ v,(ED.enc (getK dv0 kv k))[0]? = some v→wx.cell? ((⟨d,0,none⟩:Addr).add (at' kv k * 2)) = some v:=by
    intro v hv
    rw [add_lit,Nat.zero_add]; exact hc 0 v hv
   refine ⟨_,hc0 _ rfl,?_⟩
   refine ⟨_,hc2 1 _ rfl,?_⟩
   iterate 2 refine sta H fun wx H=>?_
   repeat (first | refine lIa H ?_ | refine lLa H ?_ | refine lBa H ?_ | refine lPa H ?_ | refine lSa H ?_)
   have H:=H.drop (L1:=[row b [.slice p (ks kv).length c,.slice (some ⟨d,0,none⟩) (vs kv).length c2] tBookD,nums p c (ks kv),els ED (some ⟨d,0,none⟩) c2 (vs kv)]) (by repeat (first | exact Cut.nil | (apply Cut.cons; (repeat (first | exact Pick.here | apply Pick.there)))))
   exact ⟨_,⟨by rw [h],rfl⟩,zzaA H h1 h2⟩
theorem put_d (b:Nat) (kv:List (Int×DvE)) (k:Int) (v:DvE) (hlen:kv.length + 1 < NB):Tri P F.zzao [bptr b,.int .i64 k,.agg ([.int .i64 (v).bits,.pointer (v).ptr]:List Value).toArray] [bookG ED tBookD b kv] fun r L'=>r = .bool (!hasK kv k)∧L' = [bookG ED tBookD b (putK kv k v)]:=by
 intro w S hS
 refine zzgE ?_
 unfold zzao
 have H:=Own.start hS
 refine alc_o H fun b5 wx H=>?_
 obtain ⟨p,c,q,c2,h1,h2,H⟩:=zzbr H (by repeat (first | exact Pick.here | apply Pick.there))
 dsimp only [nn]
 repeat (first | refine lIa H ?_ | refine lLa H ?_ | refine lBa H ?_ | refine lPa H ?_ | refine lSa H ?_)
 refine call_pa H (search_t (nums p c (ks kv)) nums_sl h1 (by rw [ks_len]; unfold NB at h2; omega) k) fun wx H=>?_
 have hile:at' kv k≤kv.length:=by have:=lb_le (k:=k) (ks kv); rw [ks_len] at this; exact this
 refine ⟨_,_,rfl,cnd_i (fun h=>?_) fun h=>join_o ?_⟩
 · have h:hasK kv k = true:=h
   obtain ⟨e1,e2⟩:=putK_old (v:=v) h
   have hlt:=at_lt h
   refine drw_o H fun wx H=>?_
   repeat (first | refine lIa H ?_ | refine lLa H ?_ | refine lBa H ?_ | refine lPa H ?_ | refine lSa H ?_)
   refine ⟨⟨by omega,by rw [vs_len]; show ((at' kv k:Nat):Int) < _; exact_mod_cast hlt⟩,?_⟩
   rw [Int.toNat_natCast,show lb (ks kv) k = at' kv k from rfl]
   have hlv:at' kv k < (vs kv).length:=by rw [vs_len]; exact hlt
   have H:=H.perm (L1:=[els ED q c2 (vs kv)]) (by repeat (first | exact Cut.nil | (apply Cut.cons; (repeat (first | exact Pick.here | apply Pick.there)))))
   simp only [List.cons_append,List.nil_append] at H
   obtain ⟨d,rest,rfl,hlen2,hle,hmx,H⟩:=els_open H .here (by intro e; rw [e] at hlv; simp at hlv)
   dsimp only [nn]
   show st1 _ _ _ _
   have hfit:at' kv k * 2 + 1 < (ED.flat (vs kv) ++ rest).length:=by
    rw [List.length_append,El.flat_len]
    have:(at' kv k + 1) * 2≤(vs kv).length * 2:=Nat.mul_le_mul_right _ hlv
    show _ < (vs kv).length * 2 + _
    omega
   rw [add_lit,Nat.zero_add]
   refine st1_o H .here (by show at' kv k * 2 < _; omega) fun wx H=>?_
   rw [add_lit]
   refine st1_o H .here (by simp only [List.length_set]; omega) fun wx H=>?_
   rw [splice2 (L:=ED.flat (vs kv) ++ rest) (i:=at' kv k * 2) (by omega)] at H
   have H:=els_put (E:=ED) (xs:=vs kv) (j:=at' kv k) (y:=v) H hlen2 hle hmx hlv
   rw [h]
   refine ⟨_,⟨rfl,rfl⟩,?_⟩
   have hl:(putK kv k v).length = kv.length:=by unfold putK; rw [h,if_pos rfl,List.length_set]
   have H:=H.drop (L1:=[row b [.slice p (ks kv).length c,.slice (some ⟨d,0,none⟩) (vs kv).length c2] tBookD,nums p c (ks kv),els ED (some ⟨d,0,none⟩) c2 ((vs kv).set (at' kv k) v)]) (by repeat (first | exact Cut.nil | (apply Cut.cons; (repeat (first | exact Pick.here | apply Pick.there)))))
   refine zzaA (p:=p) (c:=c) (q:=some ⟨d,0,none⟩) (c2:=c2) ?_ (by rw [e1]; exact h1) (by omega)
   rw [e1,e2]
   rw [List.length_set]
   exact H
 · have h:hasK kv k = false:=h
   obtain ⟨e1,e2⟩:=putK_new (v:=v) h
   have hn:(ks kv)[lb (ks kv) k]?≠some k:=of_decide_eq_false h
   have hl:(putK kv k v).length = kv.length + 1:=by
    rw [← ks_len,e1,ins_len (by rw [ks_len]; exact hile),ks_len]
   have fin:∀ (p1 q1:Option Addr) (c3 c4:Nat) (wx:World),X.Own w S [row b [.slice p1 (ins (ks kv) (at' kv k) k).length c3,.slice q1 (ins (vs kv) (at' kv k) v).length c4] tBookD,nums p1 c3 (ins (ks kv) (at' kv k) k),els ED q1 c4 (ins (vs kv) (at' kv k) v)] wx →
    zzbL (fun r w'=>∃ L',(r = .bool (!hasK kv k)∧L' = [bookG ED tBookD b (putK kv k v)])∧X.Own w S L' w') wx:=by
    intro p1 q1 c3 c4 wx H
    unfold zzbL
    rw [h]
    refine ⟨_,⟨rfl,rfl⟩,?_⟩
    rw [← e1,← e2] at H
    exact zzaA H (by rw [e1]; exact ins_up h1 hn) (by omega)
   have hk:at' kv k≤(ks kv).length:=by rw [ks_len]; exact hile
   have hv:at' kv k≤(vs kv).length:=by rw [vs_len]; exact hile
   refine drw_o H fun wx H=>?_
   repeat (first | refine lIa H ?_ | refine lLa H ?_ | refine lBa H ?_ | refine lPa H ?_ | refine lSa H ?_)
   refine ⟨alc_o H fun b30 wx H=>⟨?_,?_,?_,?_,alc_o H fun b63 wx H=>⟨?_,?_,?_⟩⟩,alc_o H fun b88 wx H=>⟨?_,?_,alc_o H fun b96 wx H=>⟨?_,?_,?_,?_⟩⟩⟩
   · repeat (first | refine lIa H ?_ | refine lLa H ?_ | refine lBa H ?_ | refine lPa H ?_ | refine lSa H ?_)
     rfl
   · repeat (first | refine lIa H ?_ | refine lLa H ?_ | refine lBa H ?_ | refine lPa H ?_ | refine lSa H ?_)
     rfl
   · repeat (first | refine lIa H ?_ | refine lLa H ?_ | refine lBa H ?_ | refine lPa H ?_ | refine lSa H ?_)
     rfl
   · skip
     refine call_oa H (insert_i (p:=p) (c:=c) (xs:=ks kv) (vb:=b30) (x:=k) hk (by rw [ks_len]; unfold NB at *; omega)) fun vx L' wx hq H=>?_
     obtain ⟨p1,c3,rfl,rfl⟩:=hq
     simp only [List.cons_append,List.nil_append] at H
     refine ⟨_,_,_,rfl,?_,?_,alc_o H fun b46 wx H=>⟨?_,?_,?_⟩⟩
     · repeat (first | refine lIa H ?_ | refine lLa H ?_ | refine lBa H ?_ | refine lPa H ?_ | refine lSa H ?_)
       rfl
     · repeat (first | refine lIa H ?_ | refine lLa H ?_ | refine lBa H ?_ | refine lPa H ?_ | refine lSa H ?_)
       rfl
     · repeat (first | refine lIa H ?_ | refine lLa H ?_ | refine lBa H ?_ | refine lPa H ?_ | refine lSa H ?_)
       rfl
     · repeat (first | refine lIa H ?_ | refine lLa H ?_ | refine lBa H ?_ | refine lPa H ?_ | refine lSa H ?_)
       rfl
     refine call_oa H (insert_d (p:=q) (c:=c2) (xs:=vs kv) (vb:=b46) (x:=v) hv (by rw [vs_len]; unfold NB at *; omega)) fun vx L' wx hq H=>?_
     obtain ⟨q1,c4,rfl,rfl⟩:=hq
     simp only [List.cons_append,List.nil_append] at H
     refine ⟨_,_,_,rfl,?_⟩
     dsimp only [nn]
     iterate 2 refine sta H fun wx H=>?_
     simp only [List.set_cons_zero,List.set_cons_succ] at H
     exact fin p1 q1 c3 c4 _ (H.dp)
   · repeat (first | refine lIa H ?_ | refine lLa H ?_ | refine lBa H ?_ | refine lPa H ?_ | refine lSa H ?_)
     rfl
   · repeat (first | refine lIa H ?_ | refine lLa H ?_ | refine lBa H ?_ | refine lPa H ?_ | refine lSa H ?_)
     rfl
   · skip
     refine call_oa H (insert_i (p:=p) (c:=c) (xs:=ks kv) (vb:=b30) (x:=k) hk (by rw [ks_len]; unfold NB at *; omega)) fun vx L' wx hq H=>?_
     obtain ⟨p1,c3,rfl,rfl⟩:=hq
     simp only [List.cons_append,List.nil_append] at H
     refine ⟨_,_,_,rfl,?_,?_,?_⟩
     · repeat (first | refine lIa H ?_ | refine lLa H ?_ | refine lBa H ?_ | refine lPa H ?_ | refine lSa H ?_)
       rfl
     · repeat (first | refine lIa H ?_ | refine lLa H ?_ | refine lBa H ?_ | refine lPa H ?_ | refine lSa H ?_)
       rfl
     refine call_oa H (insert_d (p:=q) (c:=c2) (xs:=vs kv) (vb:=b63) (x:=v) hv (by rw [vs_len]; unfold NB at *; omega)) fun vx L' wx hq H=>?_
     obtain ⟨q1,c4,rfl,rfl⟩:=hq
     simp only [List.cons_append,List.nil_append] at H
     refine ⟨_,_,_,rfl,?_⟩
     dsimp only [nn]
     iterate 2 refine sta H fun wx H=>?_
     simp only [List.set_cons_zero,List.set_cons_succ] at H
     exact fin p1 q1 c3 c4 _ (H.dp)
   · repeat (first | refine lIa H ?_ | refine lLa H ?_ | refine lBa H ?_ | refine lPa H ?_ | refine lSa H ?_)
     rfl
   · repeat (first | refine lIa H ?_ | refine lLa H ?_ | refine lBa H ?_ | refine lPa H ?_ | refine lSa H ?_)
     rfl
   · repeat (first | refine lIa H ?_ | refine lLa H ?_ | refine lBa H ?_ | refine lPa H ?_ | refine lSa H ?_)
     rfl
   · repeat (first | refine lIa H ?_ | refine lLa H ?_ | refine lBa H ?_ | refine lPa H ?_ | refine lSa H ?_)
     rfl
   · repeat (first | refine lIa H ?_ | refine lLa H ?_ | refine lBa H ?_ | refine lPa H ?_ | refine lSa H ?_)
     rfl
   · skip
     refine call_oa H (insert_i (p:=p) (c:=c) (xs:=ks kv) (vb:=b96) (x:=k) hk (by rw [ks_len]; unfold NB at *; omega)) fun vx L' wx hq H=>?_
     obtain ⟨p1,c3,rfl,rfl⟩:=hq
     simp only [List.cons_append,List.nil_append] at H
     refine ⟨_,_,_,rfl,?_,?_,?_⟩
     · repeat (first | refine lIa H ?_ | refine lLa H ?_ | refine lBa H ?_ | refine lPa H ?_ | refine lSa H ?_)
       rfl
     · repeat (first | refine lIa H ?_ | refine lLa H ?_ | refine lBa H ?_ | refine lPa H ?_ | refine lSa H ?_)
       rfl
     refine call_oa H (insert_d (p:=q) (c:=c2) (xs:=vs kv) (vb:=b88) (x:=v) hv (by rw [vs_len]; unfold NB at *; omega)) fun vx L' wx hq H=>?_
     obtain ⟨q1,c4,rfl,rfl⟩:=hq
     simp only [List.cons_append,List.nil_append] at H
     refine ⟨_,_,_,rfl,?_⟩
     dsimp only [nn]
     iterate 2 refine sta H fun wx H=>?_
     simp only [List.set_cons_zero,List.set_cons_succ] at H
     exact fin p1 q1 c3 c4 _ (H.dp)
theorem take_d (b:Nat) (kv:List (Int×DvE)) (k:Int):Tri P F.zzay [bptr b,.int .i64 k] [bookG ED tBookD b kv] fun r L'=>r = .tuple [.agg ([.int .i64 (getK dv0 kv k).bits,.pointer (getK dv0 kv k).ptr]:List Value).toArray,.bool (hasK kv k)].toArray∧L' = [bookG ED tBookD b (takeK kv k)]:=by
 intro w S hS
 refine zzgs ?_
 unfold zzay
 have H:=Own.start hS
 refine alc_o H fun b3 wx H=>?_
 refine call_pa H (get_d b kv k) fun wx H=>?_
 refine ⟨_,_,_,rfl,alc_o H fun b10 wx H=>?_⟩
 iterate 2 refine sta H fun wx H=>?_
 refine join_o (cnd_i (fun h=>?_) fun h=>?_)
 · obtain ⟨e1,e2⟩:=takeK_old h
   have hlt:=at_lt h
   obtain ⟨p,c,q,c2,h1,h2,H⟩:=zzbr H (by repeat (first | exact Pick.here | apply Pick.there))
   dsimp only [nn]
   repeat (first | refine lIa H ?_ | refine lLa H ?_ | refine lBa H ?_ | refine lPa H ?_ | refine lSa H ?_)
   refine call_pa H (search_t (nums p c (ks kv)) nums_sl h1 (by rw [ks_len]; unfold NB at h2; omega) k) fun wx H=>?_
   refine ⟨_,_,rfl,?_⟩
   refine drw_o H fun wx H=>?_
   repeat (first | refine lIa H ?_ | refine lLa H ?_ | refine lBa H ?_ | refine lPa H ?_ | refine lSa H ?_)
   have ew:IntKind.i64.wrap (((lb (ks kv) k:Nat):Int) + 1) = ((at' kv k:Nat):Int) + 1:=by
    unfold NB at h2
    rw [show lb (ks kv) k = at' kv k from rfl,W_id (by omega) (by omega)]
   rw [ew]
   refine call_oa H (delete_i (p:=p) (c:=c) (xs:=ks kv) (i:=at' kv k) (by rw [ks_len]; exact hlt)) fun vx L' wx hq H=>?_
   obtain ⟨c3,rfl,rfl⟩:=hq
   simp only [List.cons_append,List.nil_append] at H
   refine ⟨_,_,_,rfl,?_,?_⟩
   · repeat (first | refine lIa H ?_ | refine lLa H ?_ | refine lBa H ?_ | refine lPa H ?_ | refine lSa H ?_)
     rfl
   refine call_oa H (delete_d (p:=q) (c:=c2) (xs:=vs kv) (i:=at' kv k) (by rw [vs_len]; exact hlt)) fun vx L' wx hq H=>?_
   obtain ⟨c4,rfl,rfl⟩:=hq
   simp only [List.cons_append,List.nil_append] at H
   refine ⟨_,_,_,rfl,?_⟩
   iterate 2 refine sta H fun wx H=>?_
   simp only [List.set_cons_zero,List.set_cons_succ] at H
   unfold zzbG
   repeat (first | refine lIa H ?_ | refine lLa H ?_ | refine lBa H ?_ | refine lPa H ?_ | refine lSa H ?_)
   iterate 2 refine sta H fun wx H=>?_
   repeat (first | refine lIa H ?_ | refine lLa H ?_ | refine lBa H ?_ | refine lPa H ?_ | refine lSa H ?_)
   refine ⟨_,⟨rfl,rfl⟩,?_⟩
   have H:=H.drop (L1:=[row b [.slice p ((ks kv).eraseIdx (at' kv k)).length c3,.slice q ((vs kv).eraseIdx (at' kv k)).length c4] tBookD,nums p c3 ((ks kv).eraseIdx (at' kv k)),els ED q c4 ((vs kv).eraseIdx (at' kv k))]) (by repeat (first | exact Cut.nil | (apply Cut.cons; (repeat (first | exact Pick.here | apply Pick.there)))))
   rw [← e1,← e2] at H
   have hl:=takeK_len kv k
   exact zzaA H (by rw [e1]; exact h1.sublist (List.eraseIdx_sublist _ _)) (by omega)
 · unfold zzbG
   repeat (first | refine lIa H ?_ | refine lLa H ?_ | refine lBa H ?_ | refine lPa H ?_ | refine lSa H ?_)
   iterate 2 refine sta H fun wx H=>?_
   repeat (first | refine lIa H ?_ | refine lLa H ?_ | refine lBa H ?_ | refine lPa H ?_ | refine lSa H ?_)
   refine ⟨_,⟨rfl,rfl⟩,?_⟩
   have:takeK kv k = kv:=by unfold takeK; rw [h]; rfl
   rw [this]
   exact H.dp
def thrVd (g h:Nat):Value:=.func (.func F.zzai) [].toArray [bptr g,bptr h].toArray
noncomputable def thrEd (g h:Nat) (p:Option Addr) (c:Nat) (q:Option Addr) (c2:Nat) (kv:List (Int×DvE)):List It:=[row g [.slice p (ks kv).length c] tInts,row h [.slice q (vs kv).length c2] ED.ta,nums p c (ks kv),els ED q c2 (vs kv)]
def pairsd (kv:List (Int×DvE)):List (List Value):=kv.map fun x=>[.int .i64 x.1,.agg ([.int .i64 (x.2).bits,.pointer (x.2).ptr]:List Value).toArray]
theorem pairsd_len (kv:List (Int×DvE)):∀ x∈pairsd kv,x.length = 2:=by
 intro x hx
 obtain ⟨y,_,rfl⟩:=List.mem_map.1 hx
 rfl
theorem thrd_enters:enters P F.zzai = true:=by kernel_rfl
theorem all_d (b:Nat) (kv:List (Int×DvE)):Tri P F.zzan [bptr b] [bookG ED tBookD b kv] fun r L'=>∃ g h p c q c2,r = thrVd g h∧L' = thrEd g h p c q c2 kv ++ [bookG ED tBookD b kv]:=by
 intro w S hS
 refine zzgD ?_
 unfold zzan
 have H:=Own.start hS
 obtain ⟨p,c,q,c2,h1,h2,H⟩:=zzbr H .here
 refine drw_o H fun wx H=>?_
 dsimp only [nn]
 repeat (first | refine lIa H ?_ | refine lLa H ?_ | refine lBa H ?_ | refine lPa H ?_ | refine lSa H ?_)
 refine call_oa H (clone_i (nums p c (ks kv)) own_sl (by rw [ks_len]; omega)) fun vx L' wx hq H=>?_
 obtain ⟨p1,c3,rfl,rfl⟩:=hq
 simp only [List.cons_append,List.nil_append] at H
 refine ⟨_,_,_,rfl,?_,?_⟩
 · repeat (first | refine lIa H ?_ | refine lLa H ?_ | refine lBa H ?_ | refine lPa H ?_ | refine lSa H ?_)
   rfl
 refine call_oa H (clone_d (els ED q c2 (vs kv)) own_slZ (by rw [vs_len]; omega)) fun vx L' wx hq H=>?_
 obtain ⟨q1,c4,rfl,rfl⟩:=hq
 simp only [List.cons_append,List.nil_append] at H
 refine ⟨_,_,_,rfl,?_⟩
 refine zzha ?_
 unfold zzaP
 refine alc_o H fun g wx H=>alc_o H fun h wx H=>?_
 refine ⟨_,rfl,_,⟨g,h,p1,c3,q1,c4,rfl,rfl⟩,?_⟩
 have H:=H.perm (L1:=[row b [.slice p (ks kv).length c,.slice q (vs kv).length c2] tBookD,nums p c (ks kv),els ED q c2 (vs kv)]) (by repeat (first | exact Cut.nil | (apply Cut.cons; (repeat (first | exact Pick.here | apply Pick.there)))))
 have H:=zzaA H h1 h2
 exact own_comm (A:=[bookG ED tBookD b kv]) (B:=thrEd g h p1 c3 q1 c4 kv) (H.drop (by unfold thrEd; exact (by repeat (first | exact Cut.nil | (apply Cut.cons; (repeat (first | exact Pick.here | apply Pick.there)))))))
theorem thrd_it (g h:Nat) (p:Option Addr) (c:Nat) (q:Option Addr) (c2:Nat) (kv:List (Int×DvE)) (hl:kv.length < NB) :
 Iter P F.zzai [bptr g,bptr h] (thrEd g h p c q c2 kv) (pairsd kv):=by
 intro y w0 S0 L0 w Q I D hy H h0 hstep hend hstop
 obtain ⟨fn,fa,fc,rfl⟩:=hy
 unfold NB at hl
 refine zzgH ?_
 unfold zzai
 have H:=own_comm H
 unfold thrEd at H
 simp only [List.cons_append,List.nil_append] at H
 refine ldL_o H .here (by rfl) ?_
 refine loop_o (fun (st:Int) L'=>∃ (k:Nat) (L:List It),k≤kv.length∧st = k∧I k L∧L' = thrEd g h p c q c2 kv ++ L) (fun (st:Int)=>((kv.length:Int) - st).toNat) H
  ⟨0,L0,by omega,rfl,h0,rfl⟩ ?_
 rintro _ _ wx ⟨k,L,hk,rfl,hI,rfl⟩ H
 unfold zzds
 refine cnd_i (fun hc=>?_) fun hc=>?_
 · have hc:=of_decide_eq_true hc
   rw [ks_len] at hc
   have hkl:k < kv.length:=by omega
   have H1:=H
   unfold thrEd at H1
   simp only [List.cons_append,List.nil_append] at H1
   have hk1:(ks kv)[k]? = some (kv[k].1):=by simp [ks,hkl]
   have hk2:(vs kv)[k]? = some (kv[k].2):=by simp [vs,hkl]
   refine ⟨⟨by omega,by rw [ks_len]; exact_mod_cast hkl⟩,?_⟩
   rw [Int.toNat_natCast]
   obtain ⟨d1,rfl,hc1⟩:=els_at (q:=p) (c:=c) H1 (.there (.there .here)) hk1
   dsimp only [nn]
   refine ⟨_,by rw [add_lit,Nat.zero_add]; exact hc1 0 _ rfl,?_⟩
   refine ldL_o H1 (.there .here) (by rfl) ⟨⟨by omega,by rw [vs_len]; exact_mod_cast hkl⟩,?_⟩
   rw [Int.toNat_natCast]
   obtain ⟨d2,rfl,hc2⟩:=els_at (q:=q) (c:=c2) H1 (.there (.there (.there .here))) hk2
   dsimp only [nn]
   refine ⟨_,by rw [add_lit,Nat.zero_add]; exact hc2 0 _ rfl,?_⟩
   refine ⟨_,by rw [add_lit,add_lit,Nat.zero_add]; exact hc2 1 _ rfl,?_⟩
   have hx:(pairsd kv)[k]? = some [.int .i64 kv[k].1,.agg ([.int .i64 (kv[k].2).bits,.pointer (kv[k].2).ptr]:List Value).toArray]:=by simp [pairsd,hkl]
   refine callVal_mono (hstep k _ L [] wx hx hI (by rw [List.append_nil]; exact own_comm H)) ?_
   rintro _ w' ⟨bo,rfl,L',hL',H'⟩
   rw [List.append_nil] at H'
   refine ⟨_,rfl,?_⟩
   cases bo
   · exact cnd_i (fun _=>hstop _ _ hL' H') (fun h=>by cases h)
   · refine cnd_i (fun h=>by cases h) fun _=>?_
     rw [W_id (by omega) (by omega)]
     exact ⟨⟨_,⟨k + 1,L',by omega,by push_cast; rfl,hL',rfl⟩,own_comm H'⟩,by omega⟩
 · have hc:=of_decide_eq_false hc
   rw [ks_len] at hc
   have:k = (pairsd kv).length:=by simp [pairsd]; omega
   subst this
   exact hend _ _ hI (own_comm H)
end Go.Proofs.YtidcijbnbdemeaaGreat
